/- Helpers for TopParkUnharmed:. Conditions: none. -/
import Derived.Test.YtpdndmobphnjcaaGreatDoorRows
import Derived.WalkKit
import Derived.WalkSpells
import Derived.WalkLawsBesides
import Derived.Deep.QuietTactic
import Derived.BigQuiet
import Derived.Deep.RegionHeld3
import Derived.Deep.DrawnRows
import Derived.Deep.DeepCutAuto
import Derived.RangeFuncLeaves
import Derived.RangeFuncRecord
import Derived.OrdersIn
import Derived.LoopNIn
import Derived.Deep.Upon
import Derived.Laws.MakeOwn
import Derived.LoopN
import Derived.Test.YtpdndmobphnjcaaGreatDoorProg
import Derived.Stop.Asserts
import Derived.Lib.IfaceEq
import Derived.RowKitTokens
import Derived.OpenShut
import Derived.ChangeShapes
import Derived.WideShapes
import Derived.Carry
import Derived.ChangeOld
import Derived.FnData
import Derived.Test.YtpdndmobphnjcaaGreatDoorCards
import Derived.Test.YtpdndmobphnjcaaGreatDoorTie
import Derived.ProofKit
import Derived.Deep.DeepHandedRow
import Derived.Lib.LaidTab
set_option linter.defProp false
set_option linter.unusedVariables false
set_option linter.unusedSimpArgs false
noncomputable section
open List renaming length→M,length→aa,replicate→aq,range→au
open Bool renaming true→U,true→ae,false→X,false→af
open Go.Value renaming int→ag
open Option renaming some→ah,none→aj
open Go.IntKind renaming i64→J,i64→ai,u8→aw,u32→ax
open True renaming intro→ak
open Decidable renaming decide→an
open ByteArray renaming mk→av
open Go.Region renaming ready→ay,wanted→az
open Go.Instr renaming findNow→aA
namespace Go
structure qT(α:Type)
instance{α:Type}:CoeSort (qT α) Type:=⟨λ_=>α⟩
def Y:qT Int:=⟨⟩
def aB:qT (List Int):=⟨⟩
def aC:qT (Nat):=⟨⟩
def aE:qT (List ByteArray):=⟨⟩
def aH:qT (List Nat):=⟨⟩
def aI:qT (List (List Int)):=⟨⟩
def aK:qT (Array Oper):=⟨⟩
def aM:qT (Bool):=⟨⟩
def aO:qT (World):=⟨⟩
def aR:qT (Program):=⟨⟩
def aS:qT (TypeId):=⟨⟩
def aT:qT (List Value):=⟨⟩
def aU:qT (Oper):=⟨⟩
def aV:qT (Value):=⟨⟩
def aX:qT (Array Value):=⟨⟩
def aZ:qT (Array Bool):=⟨⟩
def bg:qT (Act):=⟨⟩
def bh:qT (List Bool):=⟨⟩
def bn:qT (FuncId):=⟨⟩
def bp:qT (Option Nat):=⟨⟩
def bu:qT (List TypeId):=⟨⟩
def bx:qT (List Oper):=⟨⟩
def bz:qT (ByteArray):=⟨⟩
def bA:qT (Option Tmp):=⟨⟩
def bB:qT (Code):=⟨⟩
def aXR:qT (List Deferred):=⟨⟩
def aXT:qT (Operand):=⟨⟩
def aXU:qT (IntKind):=⟨⟩
def aXW:qT (Option Value):=⟨⟩
def aXX:qT (Func):=⟨⟩
def aXY:qT (List MemPlace):=⟨⟩
def aX0:qT (Array Operand):=⟨⟩
def aX2:qT (Array (Nat×Value)):=⟨⟩
def aX3:qT (Array Tmp):=⟨⟩
def aX6:qT (List MapEntry):=⟨⟩
def aX7:qT (List (String×DataW Unit)):=⟨⟩
def aX8:qT (Array TypeId):=⟨⟩
def aX9:qT (Option (Nat×Nat)):=⟨⟩
def aYa:qT (Region.Mode):=⟨⟩
def aYb:qT (Exit):=⟨⟩
def aYd:qT (List (Int×(List Int))):=⟨⟩
def aYe:qT (List ResultVar):=⟨⟩
def aYg:qT (List Field):=⟨⟩
abbrev Ac:=@decide_eq_true_eq
abbrev AY:=@Bool.and_eq_true
abbrev AD:=@if_pos
abbrev Aj:=@Option.some.injEq
abbrev AE:=@if_neg
abbrev CV:=@List.length_replicate
abbrev BG:=@List.length_append
abbrev DI:=@decide_eq_false_iff_not
abbrev Az:=@Prod.mk.injEq
abbrev CY:=@beq_eq_false_iff_ne
abbrev C4:=@List.length_set
abbrev Au:=@Nat.le_refl
abbrev Bs:=@Int.toNat_of_nonneg
abbrev BO:=@List.all_eq_true
abbrev Bm:=@List.length_cons
abbrev B6:=@List.mem_cons
abbrev C2:=@Int.toNat_natCast
abbrev CS:=@Bool.or_eq_true
abbrev DH:=@List.getD_eq_getElem?_getD
abbrev C3:=@List.length_nil
abbrev Bf:=@List.mem_append
abbrev Bv:=@List.not_mem_nil
abbrev Di:=@List.getElem?_eq_getElem
abbrev DJ:=@of_decide_eq_true
abbrev HN:=@Bool.or_eq_false_iff
abbrev Cj:=@Go.run_underlying
abbrev EI:=@List.getElem?_eq_some_iff
abbrev Dj:=@List.take_of_length_le
abbrev Cw:=@List.append_assoc
abbrev Dr:=@List.getElem?_map
abbrev FA:=@List.drop_eq_nil_of_le
abbrev Gn:=@Int.mul_le_mul_of_nonneg_right
abbrev B0:=@congrArg
abbrev Ck:=@List.mem_filter
abbrev DB:=@Bool.not_eq_true'
abbrev CZ:=@List.drop_zero
abbrev Cl:=@beq_iff_eq
abbrev Gp:=@List.getElem?_append_right
abbrev Ci:=@decide_eq_true
abbrev I0:=@Int.tdiv_eq_ediv_of_nonneg
abbrev I1:=@List.getElem?_append_left
abbrev Ia:=@Array.getElem?_eq_some_iff
abbrev FQ:=@List.length_drop
abbrev DC:=@Bool.false_or
abbrev Cb:=@Int.le_refl
abbrev FR:=@List.getElem?_drop
abbrev El:=@List.take_length
abbrev Ej:=@Option.some.inj
abbrev Ek:=@List.nil_append
abbrev Gl:=@List.getElem_mem
abbrev Hx:=@List.mem_iff_getElem
abbrev Bt:=@or_false
abbrev Hy:=@Bool.false_eq_true
abbrev Hz:=@List.mem_singleton
abbrev GK:=@List.length_map
abbrev N8:=@Int.mul_le_mul_of_nonneg_left
abbrev F7:=@Int.mul_nonneg
abbrev ES:=@List.map_cons
abbrev ET:=@Bool.true_and
abbrev EH:=@bne_iff_ne
abbrev FP:=@List.mem_map
abbrev IW:=@Bool.not_eq_false'
abbrev Bu:=@if_true
abbrev IX:=@Bool.eq_false_iff
abbrev F8:=@Nat.zero_add
abbrev Gm:=@List.append_nil
abbrev IY:=@List.getElem?_set
abbrev Jo:=@List.map_congr_left
abbrev IZ:=@Bool.eq_iff_iff
abbrev MH:=@List.length_eq_zero_iff
abbrev MI:=@Go.World.putObj_heap_other
abbrev F9:=@Int.le_trans
abbrev KI:=@of_decide_eq_false
abbrev Hv:=@List.cons.injEq
abbrev IV:=@decide_eq_false
abbrev MG:=@List.length_take
abbrev HM:=@List.map_map
abbrev Hw:=@Nat.add_assoc
abbrev Jn:=@Option.map_some
abbrev LN:=@List.getElem?_take
abbrev Oa:=@List.mem_or_eq_of_mem_set
abbrev yu:=@Array.toArray_toList
abbrev Zp:=@Function.comp_def
abbrev QN:=@Int.fdiv_eq_ediv_of_nonneg
abbrev QO:=@Int.not_le
abbrev MJ:=@ge_iff_le
abbrev NA:=@Nat.mul_le_mul_right
abbrev GM:=@Nat.add_mul
abbrev NB:=@List.mem_cons_of_mem
abbrev I2:=@Nat.le_trans
abbrev KJ:=@List.map_append
abbrev KK:=@List.foldl_cons
abbrev Oe:=@Array.toList_map
abbrev LP:=@List.cons_append
abbrev QP:=@Int.eq_ofNat_of_zero_le
abbrev J2:=@List.all_cons
abbrev Of:=@List.mem_of_getElem?
abbrev Sr:=@List.drop_eq_getElem_cons
abbrev Em:=@true_and
abbrev Og:=@List.length_pos_iff
abbrev QQ:=@List.mem_of_mem_erase
abbrev Zx:=@List.take_succ_eq_append_getElem
abbrev Ss:=@List.getElem?_replicate
abbrev LQ:=@List.mem_range
abbrev QR:=@List.mem_of_mem_drop
abbrev MK:=@List.nodup_cons
abbrev Oh:=@Option.bind_some
abbrev NC:=@List.filter_cons
abbrev Su:=@List.getElem?_eq_none
abbrev GL:=@if_false
abbrev QL:=@Int.natCast_nonneg
abbrev Oc:=@beq_self_eq_true
abbrev Od:=@List.any_eq_true
abbrev LO:=@List.map_nil
abbrev Sm:=@Bool.not_eq_false
abbrev Sn:=@Bool.or_eq_true_iff
abbrev Zs:=@Option.isNone_iff_eq_none
abbrev Zt:=@List.getElem?_toArray
abbrev So:=@List.mem_filterMap
abbrev Sp:=@List.mem_replicate
abbrev Zu:=@Option.isSome_iff_exists
abbrev V9:=@List.erase_cons_tail
abbrev VA:=@List.mem_of_mem_take
abbrev Sq:=@List.length_range
abbrev mv:=@Array.getD_eq_getD_getElem?
abbrev Jp:=@Go.mem_ready
abbrev VB:=@Int.ediv_le_self
abbrev QM:=@Bool.false_and
abbrev Zv:=@List.contains_iff_mem
abbrev yw:=@Bool.and_eq_false_iff
abbrev Zw:=@Int.mul_tdiv_add_tmod
abbrev mw:=@List.isEmpty_eq_false_iff
abbrev my:=@List.pairwise_iff_getElem
abbrev mz:=@Decidable.byContradiction
abbrev nB:=@List.getLastD_eq_getLast?
abbrev Sk:=@List.range_succ
abbrev Sl:=@Int.ediv_nonneg
abbrev N9:=@Nat.zero_le
abbrev mr:=@Go.Result.andThen_ok
abbrev Zq:=@List.getElem?_set_ne
abbrev Ob:=@Bool.or_true
abbrev QJ:=@Int.sub_zero
abbrev QK:=@Int.not_lt
abbrev yv:=@List.replicate_append_replicate
abbrev Zr:=@List.replicate_succ
abbrev nJ:=@List.getElem?_cons_succ
abbrev Sv:=@Bool.and_false
abbrev bH:=@Nat.lt_of_lt_of_le
abbrev bI:=@List.filter_append
abbrev nK:=@Int.mul_ediv_add_emod
abbrev nL:=@List.set_append_right
abbrev bJ:=@Decidable.not_not
abbrev zQ:=@Array.getElem?_append_left
abbrev VG:=@Bool.and_assoc
abbrev nM:=@List.replicate_succ'
abbrev bK:=@List.isEmpty_iff
abbrev apl:=@Array.mem_append
abbrev bL:=@List.ext_getElem
abbrev bM:=@Nat.lt_succ_self
abbrev VH:=@Int.mul_comm
abbrev zR:=@Array.getElem?_eq_getElem
abbrev zS:=@Array.mapM_eq_mapM_toList
abbrev aNX:=@List.getElem?_take_of_lt
abbrev bP:=@Go.Oper.apart_spec
abbrev KL:=@Ne.symm
abbrev nN:=@List.pairwise_cons
abbrev nO:=@List.length_modify
abbrev nP:=@List.getElem_range
abbrev zT:=@Classical.axiomOfChoice
abbrev Sw:=@Nat.one_mul
abbrev zU:=@Nat.add_sub_cancel_left
abbrev VD:=@Go.callsIn_wide
abbrev nD:=@Go.Sem.run_bind
abbrev zA:=@List.Perm.append_right
abbrev nF:=@List.flatMap_cons
abbrev zD:=@List.singleton_append
abbrev zF:=@List.length_filter_le
abbrev zH:=@Go.run_typeAssert_lacksB
abbrev nG:=@Option.getD_some
abbrev aNT:=@List.eq_nil_iff_forall_not_mem
abbrev nH:=@List.nodup_range
abbrev bE:=@List.any_cons
abbrev Oi:=@and_true
abbrev aNU:=@List.eq_nil_of_length_eq_zero
abbrev VE:=@List.map_id
abbrev VF:=@Int.add_mul
abbrev aNV:=@List.drop_append_of_le_length
abbrev nI:=@List.foldr_cons
abbrev aNW:=@List.replicate_eq_append_iff
abbrev zI:=@Array.length_toList
abbrev zJ:=@Array.toList_append
abbrev zK:=@List.getElem?_range
abbrev zL:=@List.filter_sublist
abbrev zM:=@Nat.add_comm
abbrev bF:=@Nat.add_zero
abbrev zO:=@Go.Sem.run_pure
abbrev bG:=@Int.le_total
abbrev VC:=@Nat.not_lt
abbrev yx:=@Int.tmod_lt_of_pos
abbrev Zy:=@Go.getD_set_ne
abbrev yy:=@Go.run_storeCells_at
abbrev yz:=@List.nodup_append
abbrev z7:=@List.filter_congr
abbrev z8:=@List.Pairwise.map
abbrev z9:=@List.reverse_perm
abbrev Zz:=@Int.one_mul
abbrev nC:=@Bool.and_true
abbrev apm:=@List.mem_toArray
abbrev zd:=@List.getElem_map
abbrev ze:=@Int.ediv_le_ediv
abbrev nZ:=@Nat.lt_or_ge
abbrev na:=@Nat.le_of_eq
abbrev nf:=@Nat.zero_mul
abbrev ng:=@Go.execOp_congr
abbrev nh:=@List.any_nil
abbrev ni:=@Nat.sub_self
abbrev zf:=@Int.neg_mul_neg
abbrev nj:=@Int.mul_add
abbrev T1:=@eq_comm
variable {p:Prop}
def bX(h:p:=by
 have c1:s.i<s.n:=AX
 rw [AI (x:=s.i+1)];exact ⟨⟨Aa,Aa,h2,h3,hg,(by first|exact l1|(simp only [C4];exact l1)),l2,(by first|exact l3|(simp only [C4];exact l3)),(by first|exact l4|(simp only [C4];exact l4)),(by first|exact l5|(simp only [C4];exact l5))⟩,by simp only [dq];omega⟩):=h
def bY(h:p:=by
 intro s hI;refine ⟨λc1=>⟨?_,?_,?_,ak⟩,λc1=>⟨A9,ak⟩⟩
 all_goals ((obtain ⟨h0,h1,h2,h3,h4⟩:=hI;(try simp only [Ac] at c1);first|omega|(refine ⟨A0,?_,?_⟩<;>simp only [Bm,C3]<;>omega) |(simp only [BG,Bm,C3];omega) |exact ⟨rfl,AJ⟩ |exact ⟨rfl,rfl⟩))):=h
def aNi(h:p:=by
 have c1:s.k<s.m:=AX
 have c2:=Qv hI c2
 have hp:s.levels.getD (gi s.l s.k).toNat 0=s.level-1/\s.level<=Ff s.B5 (gi s.l s.k) (gi s.most<|gi s.l s.k):=by
  refine ⟨c2,?_⟩
  have h6:=hI.2.2.1
  simp only [DI] at c3;rw [<-h6] at c3;unfold Ff;omega
 have hE:=Wg hI c1 c2
 rcases eN _ hE with ⟨q1,q2⟩ |⟨q1,q2,q3⟩
 ·rw [q1] at c4
  cases c4
 ·rw [q2] at c5
  cases c5):=h
def Jq(h:p:=by
 rintro s ⟨h0,h1,h2,h3⟩
 exact ⟨A0,A0,h2,h3,λj hj=>A0⟩):=h
def LR(h:p:=by
 by_cases hji:(j:Y)<s.i
 ·exact h4 j hji
 ·have:(j:Y)=s.i:=A8
  rw [this];exact hg):=h
def QS(h:p:=by
 intro s hI;refine ⟨λc1=>⟨?_,λ_=>trivial,λ_=>trivial⟩,λ_=>trivial⟩
 ·(obtain ⟨h0,h1,h2,h3,h4⟩:=hI;simp at c1;omega)):=h
def zg(h:p:=by
 refine ⟨rfl,?_⟩;refine ad1 (by rw [Ib];exact h4) λj j0 j1=>?_
 rw [Ib] at j1;rw [NQ j0 j1,h5 j j0 A0,AD (show j<s.i by omega)]):=h
def zh(h:p:=by
 refine ⟨hW.mask d1 d2 d3,λb hb=>?_⟩
 rcases hb with hb|⟨k,bk,hk1,hk2,hk3,rfl⟩
 ·exact d1.block b (hW.Bc b hb)<|hW.qq hb
 ·have hkt:k∉tr:=by simpa using hk3
  rw [aEd] at hk1;cases hH:H2[k]? with
  |none=>simp [hH] at hk1
  |some b0=>
   simp only [hH,Jn,Aj,F8] at hk1;rw [AE<|by simpa using hkt] at hk1
   subst hk1;exact d1.block _ (hW.lt hH hk2)<|hW.ad4 hH hk2 hkt):=h
def nk(h:p:=by
 have hG':(GU (EX H d) l).all (λ_=>True):=aQt
 clear hG
 simp only [C8,R,okV,owns] at*;obtain ⟨ys,h1,h2⟩:=h;exact ⟨ys,h1,TR h2 hk hS λx y hm hx hk' hr=>Mf hW clo d x y (Ox hG' _ hm) hx hk' hr⟩):=h
def QT(h:p:=by
 have c:=EH.1 c
 show LJ _=_
 rw [(qQ (by rw [s1];exact c)).1,(qQ (by rw [s1];exact c)).2,s1]
 rfl):=h
def np(h:p:=by
 simp only [Cl,CY,ne_eq,CS,HN,Ac,DI,MJ,QO] at*;refine fin _ _ ?_ ?_<;>(clear fin w0 w3a w3b w4a w4b;omega)):=h
def aNj(h:p:=by
 have hrun:(execOp a.eval o).run P w=.ok .skip w':=KN
 rw [hrun,<-h2];refine ⟨Z,β,e2,?_,?_,ak,A0,λ_ _=>rfl,λk k1 k2=>A0,by simp only [P5,Ed,ho];exact e6⟩
 ·rw [e3];exact hF.mono (Au _) (λ_ _=>rfl) (λ_ h=>h) e4
 ·simp only [R]):=h
def bZ(h:p:=by exact .inl ⟨rfl,λj hj=>h4 j A0⟩):=h
def T2(h:p:=by
 rintro s ⟨h0,h2,h3,h4,h5,h6⟩
 exact ⟨A0,h2,h3,h4,λj j0 j1=>A8,h6⟩):=h
def zY(h:p:=by
 intro s hI;refine ⟨λc1=>⟨?_,?_,?_,?_,ak⟩,λc1=>⟨A9,ak⟩⟩
 all_goals ((obtain ⟨⟨h0,h1⟩,h2,h3,h4,h5,h6⟩:=hI;(try simp only [Ac] at c1);first|omega|exact ⟨rfl,AJ⟩ |(omega)))):=h
def nT(h:p:=by
 by_cases e:j=s.i
 ·subst e
  rw [AD rfl,AD (show s.i<s.i+1 by omega)]
  rfl
 ·rw [AE e,h5 j j0 j1]
  by_cases q:j<s.i
  ·omega
  ·omega):=h
def zZ(h:p:=by
 have e1:=λw=>run_sizeOf hsz w
 have e2:=λw=>qX hz w
 have n1:¬(len*m>2^24):=A0
 have n2:¬(len*m=0):=A0
 simp only [Instr.buildSlice,nD,Cj hu,mr,e1,AE n1,AE n2,e2,zO,f1,newRow];rfl):=h
def aNb(h:p:=by
 have hrun:(execOp a.eval o).run P w=.ok (.value<|.map<|ah w.heap.size) (w.alloc<|.map #[] 0):=by simp [execOp,ho,Instr.makeMap]
 rw [hrun,<-h1,<-h2];refine ⟨Z,β',b3,hF.mono AJ b1 (λ_ h=>h) λb hz=>EJ b4<|hW.Bc b hz,?_,?_,AJ,b1,λk k1 k2=>?_,NM b4⟩
 ·simp only [R,b2]
 ·simp [okV]
 ·have:k=M H:=by simp at k2;omega
  rw [this,b2];exact .inl<|Au _):=h
def nU(h:p:=by
 simp only [Cl,CY,ne_eq,CS,HN,Ac,DI,MJ,QO] at*;refine fin _ _ ?_ ?_<;>(clear fin w1a w1b w1c w3a w3b w4a w4b;omega)):=h
def aNc(h:p:=by
 simp only [Cl,CY,ne_eq,CS,HN,Ac,DI,MJ,QO] at*;refine fin _ _ ?_ ?_<;>(clear fin w0 w1a w1b w1c w4a w4b;omega)):=h
def aNd(h:p:=by
 simp only [Cl,CY,ne_eq,CS,HN,Ac,DI,MJ,QO] at*;refine fin _ _ ?_ ?_<;>(clear fin w0 w1a w1b w1c w3a w3b;omega)):=h
def NF(h:p:=by obtain ⟨h1,h2⟩:=same h;exact gen h1 h2):=h
def VJ(h:p:=by
 simp only [renV,R] at*;rw [(h.at<|ho k J3).1];exact hr):=h
def Sz(h:p:=by exact ⟨False,.junk,GQ,λH K=>by simp [T.all]⟩):=h
def bR(h:p:=by
 split at h
 ·simp only [T.all,Az] at h
  rw [<-h.2];exact EvL.app _ _
 ·cases h):=h
def nV(h:p:=by
 simp only [renV,R,owns,okV] at*;obtain ⟨ys,h1,h2⟩:=hr;exact ⟨ys,h1,ren_RL h l _ ho hok h2⟩):=h
def za(h:p:=by
 intro s hI;refine ⟨λc1=>⟨?_,?_,λ_=>trivial,λ_=>trivial⟩,λ_=>trivial⟩
 all_goals ((obtain ⟨h0,h1,h2,h3,h4⟩:=hI;simp at c1;omega))):=h
def T0(h:p:=by
 have c1:s.n<=s.i:=A8
 exact ⟨rfl,A0⟩):=h
def bS(h:p:=by exact val h2 (v:=z) KN e2 e3):=h
def bT(h:p:=by
 rintro s ⟨h0,h1,h2,h3⟩
 exact ⟨A0,A0,h1,h2,A0⟩):=h
def nW(h:p:=by
 simp only [R,okV] at*;obtain ⟨ys,h1,h2⟩:=h;exact ⟨ys,h1,RL.mono hβ hZ hw l _ hk h2⟩):=h
def aNe(h:p:=by
 split at h
 ·simp only [owns,Hz] at hk
  split at h
  ·rename_i hb
   split at h
   ·grind
   ·cases h
  ·cases h
 ·simp [owns] at hk
 ·simp only [owns,Hz] at hk
  subst hk;split at h
  ·rename_i hb;exact ⟨⟨_,hb,hr.1⟩,.inr ⟨_,_,_,rfl⟩⟩
  ·cases h
 ·cases h):=h
def aNf(h:p:=by
 unfold U0
 (rw [AI,h5] at c2;unfold koV;revert c2;generalize inB (OR s.l s.i).2.1 _ _=a;generalize inB (OR s.l s.i).2.2.1 _ _=b;generalize inB (OR s.l s.i).2.2.2 _ _=c;generalize List.contains (α:=Int) _ _=d;cases a<;>cases b<;>cases c<;>cases d<;>simp)):=h
def zc(h:p:=by
 split at h
 ·split at h
  ·rename_i hg
   rw [AD hg];rw [T.all_bind] at h|-;exact T.BQ (λq hq=>hh _ _ hq) h
  ·cases h
 ·cases h):=h
def bU(h:p:=by
 rename_i ho;rcases h with h|h
 ·simp [Er,ho] at h
 ·simp [HU,ho] at h):=h
def bW(h:p:=by
 rename_i ho;rcases h with h|h
 ·simp [Kx,ho] at h
 ·simp [HU,ho] at h):=h
def nX(h:p:=by
 refine ⟨c2,?_⟩
 have h6:=hI.2.2.1
 simp only [DI] at c3;rw [<-h6] at c3;unfold Ff;omega):=h
def aNg(h:p:=by
 have hh':w'.heap[r]? =ah (.map es clock):=aQV
 have hget:(getObj r).run P w'=.ok (.map es clock) w':=oD
 have hz0:=λw=>qX hz w
 simp [Instr.lookup,Cj hu,hy,hget,qT hku,Instr.findKey,Cj hku,hzq,q1,hz0]):=h
def nY(h:p:=by
 simp only [R,owns,okV] at*;obtain ⟨ys,h1,h2⟩:=h;exact ⟨ys,h1,RL.Ky l _ hj hk h2⟩):=h
def aNh(h:p:=by
 rw [hrun,<-h1,<-h2];refine ⟨Z,β',b3,hF.mono AJ b1 (λ_ h=>h) b4,?_,?_,AJ,b1,λk k1 k2=>?_,NM<|(Below.refl _ _).alloc (Au _) _⟩
 ·simp only [R,b2]
 ·simp [okV]
 ·have:k=M H:=by simp at k2;omega
  rw [this,b2];exact .inl<|Au _):=h
def aNY(h:p:=by
 have:=e1 w' λb hb=>(hD w' hw').2 b (by
  rcases hb with hb|⟨k,e4,e5⟩
  ·exact .inl hb
  ·obtain ⟨bk,l1,l2⟩:=hlv k e4
   refine .inr ⟨k,bk,l1,l2,?_,e5⟩;unfold uP at hap;simp only [ho,e4] at hap
   simpa using hap)
 simp [execOp,ho,this]):=h
def nQ(h:p:=by rw [FT<|hl x EU]):=h
def bQ(h:p:=by
 rintro s ⟨h0,h1,h2,h3⟩
 exact ⟨A0,A0,h1,h2,h3⟩):=h
def aNZ(h:p:=by
 rw [show (s.i+1).toNat=s.i.toNat+1 by omega,E6,<-h5]
 have e1:s.o.getD s.i.toNat (Ty.dflt Ae)=AZ s.o (s.i.toNat:Y):=by
  rw [DH,Di A0];rw [show AZ s.o (s.i.toNat:Y)=s.o[s.i.toNat]' A0 from Qx A0];rfl
 rw [e1];rfl):=h
def ND(h:p:=by rename_i ho;simp [isSp,ho] at hsp):=h
def Sy(h:p:=by
 have c1:s.n<=s.i:=AX
 exact bZ):=h
def zW(h:p:=by
 have:=adX (P:=P) (G:=G) (Γ:=λ_=>aj) (F:=F) (y:=y) h
 unfold pux at this;unfold hpx;simp only [ho] at this|-;exact this):=h
def aNa(h:p:=by
 obtain ⟨_,⟨h2,h3,h4,h5⟩,_⟩:=hI
 have c2:((s.levels.getD (gi s.l s.k).toNat 0) !=(AA<|s.level-1))=true:=c2
 rw [AI (x:=s.level-1)] at c2
 have c2:¬s.levels.getD (gi s.l s.k).toNat 0=s.level-1:=Dl
 exact c2 h.1):=h
def zX(h:p:=by
 have:=V4 (β:=β) (Z:=Z) (w:=w)<|(au<|len*m).map λi=>z.cells[i%z.cells.size]!
 simpa [HM,Zp] using this):=h
def nR(h:p:=by
 simp only [R] at*;obtain ⟨ys,h1,h2⟩:=hh;exact ⟨ys,h1,RL.shut h o' l _ h2⟩):=h
def aO6(h:p:=by
 simp only [R];refine ⟨_,rfl,?_⟩;simp only [Oe];refine RL.Cm AJ λi x hx=>?_
 rw [Dr] at hx|-;cases hq:first.toList[i]? with
 |none=>simp [hq] at hx
 |some q=>simp [hq] at hx;subst hx;exact ⟨a.eval q,AJ,(ev q).1⟩):=h
def aO7(h:p:=by
 have hh':w'.heap[r]? =ah (.map es clock):=aQV
 have hget:(getObj r).run P w'=.ok (.map es clock) w':=oD
 simp [Instr.lookup,Cj hu,hy,hget,qT hku,Instr.findKey,Cj hku,hzq,q1]):=h
def aO8(h:p:=by
 simp only [R];refine ⟨_,rfl,?_⟩;simp only [Oe];refine RL.Cm AJ λi x hx=>?_
 rw [Dr] at hx|-;cases hq:cap.toList[i]? with
 |none=>simp [hq] at hx
 |some q=>simp [hq] at hx;subst hx;exact ⟨a.eval q,AJ,(ev q).1⟩):=h
def aO9(h:p:=by
 rw [AD (show Fg (Be s.p.ca s.i) (CH s.p.mi s.i) (AG s.p.gs s.i).2.2.1 (Bk (AG s.p.gs s.i)<|BJ s.p.st s.i)>Bk (AG s.p.gs s.i) (BJ s.p.st s.i) from DJ c5)];rw [show CX s.p.gs s.p.st s.i 6 2 0=_ from AD<|eq_of_beq c6];rfl):=h
def aOA(h:p:=by
 rw [AD (show Fg (Be s.p.ca s.i) (CH s.p.mi s.i) (AG s.p.gs s.i).2.2.1 (Bk (AG s.p.gs s.i)<|BJ s.p.st s.i)>Bk (AG s.p.gs s.i) (BJ s.p.st s.i) from DJ c5)];rw [show CX s.p.gs s.p.st s.i 6 2 0=_ from AE<|CY.1 c6];rfl):=h
def Oj(h:p:=by exact Jt us F H Z β F1 H1 hW hF h):=h
def zo(h:p:=by
 simp only [Bx] at hx;cases j with
 |zero=>simp at hx;subst hx;exact ⟨_,h,KM⟩
 |succ j=>simp at hx):=h
def aOB(h:p:=by
 rename_i f l hl;simp only [T.all,Az] at h;rw [hl] at hx
 have hx1:=hx.1
 simp only [R] at hx1;obtain ⟨ys,e1,_⟩:=hx1;refine val h.2.symm (v:=a.eval x) KN ?_ ?_<;>rw [<-h.1]
 ·exact hx.1
 ·exact hx.2):=h
def aOC(h:p:=by
 rename_i f l hl;simp only [T.all,Az] at h;rw [hl] at hx
 have hx1:=hx.1
 simp only [R] at hx1;obtain ⟨ys,e1,_⟩:=hx1;refine val (v:=a.eval x) (λw' _=>KN) ?_ ?_<;>rw [<-h.1]
 ·exact hx.1
 ·exact hx.2):=h
def aOD(h:p:=by
 obtain ⟨a,cap,h1,h2,h3⟩:=h;refine ⟨a,cap,by rw [<-h1];exact hb 0 cM,h2,λhn=>?_⟩
 obtain ⟨b',o',h4,h5,h6⟩:=h3 hn;exact ⟨b',o',h4,hZ _ h5,λi d hd=>RD.mono hZ hw e d b' _ h5<|h6 i d hd⟩):=h
def zp(h:p:=by
 obtain ⟨_,⟨cs,f2,f3⟩,_⟩:=tN hW hb hcl;refine ⟨cs,f2,?_⟩
 have:=RL.length f3
 simpa using this):=h
def aOE(h:p:=by
 rename_i t m i x ho;obtain ⟨H1,h1,h2⟩:=T.B7 h;simp only [T.all,Az] at h2;obtain ⟨h2,h3⟩:=h2;subst h3;obtain ⟨w',e1,e2,e3,e4,e6⟩:=adb hW h1 (ev m).1 (ev i).1 (ev x).1 (ev x).2;exact aNj):=h
def zq(h:p:=by
 show MF _ _ _=MF _ _ _
 rw [IZ];unfold MF;simp only [Cl,CY,ne_eq] at*;simp only [AY,CS,Ac];omega):=h
def aOF(h:p:=by
 rw [hrun];refine ⟨Z,β',e4,hF.mono A0 e3 (λ_ h=>h) λb hz=>EJ e2<|hW.Bc b hz,e5,e6,A0,e3,λk k1 k2=>?_,NM e2⟩
 have:k=M H:=A0
 rw [this,e8];exact .inl<|Au _):=h
def aOG(h:p:=by
 refine RL.Cm AJ λi x hx=>?_
 rw [Oe,Dr];cases hq:args.toList[i]? with
 |none=>simp [hq] at hx
 |some q=>simp [hq] at hx;subst hx;exact ⟨a.eval q,AJ,Qw (hF.eval hW.Cy q).1⟩):=h
def aOH(h:p:=by
 simp only [T.all,Az] at h;rw [hl] at hx
 have hx1:=hx.1
 simp only [R] at hx1;refine val h.2.symm (v:=a.eval x) (by simp [execOp,ho,hx1]) ?_ ?_<;>rw [<-h.1]
 ·exact hx.1
 ·exact hx.2):=h
def QU(h:p:=by
 simp [Br,BN,D8,hv,EW.ev,h]
 grind):=h
def aOI(h:p:=by
 simp only [T.all,Az] at h;rw [hl] at hx
 have hx1:=hx.1
 simp only [R] at hx1;refine val (v:=a.eval x) (λw' _=>by simp [execOp,ho,hx1]) ?_ ?_<;>rw [<-h.1]
 ·exact hx.1
 ·exact hx.2):=h
def aOJ(h:p:=by
 (try simp only [T.all] at hu)
 (try simp only [T.all])
 rw [step _ _ _ _ _ hy g2,e1,e2];refine ⟨h.1,T.BQ (λq hq=>?_) hu⟩
 (try simp only at hq)
 (try simp only)
 rw [Lb a2];exact hq):=h
def zr(h:p:=by
 rw [hg] at hq;simp only [Hy,GL] at hq;rw [hq];exact .inr ⟨rfl,rfl,rfl,rfl,rfl,rfl,rfl⟩):=h
def aOK(h:p:=by
 intro s hI;refine ⟨λc1=>⟨?_,λc2=>⟨A9,ak⟩,λc2=>⟨A9,ak⟩⟩,λc1=>⟨A9,ak⟩⟩
 ·(obtain ⟨h0,h1,h2,h3⟩:=hI;simp only [Ac] at c1;omega)):=h
def aOL(h:p:=by
 refine AU.Cm λi x hx=>?_
 rw [Dr] at hx;cases hq:(vs.map (·.2))[i]? with
 |none=>simp [hq] at hx
 |some q=>simp [hq] at hx;subst hx;exact Qj H hH 6 _<|AU.get i q hoka hq):=h
def aOM(h:p:=by
 have:(j:Y)=s.i:=oY
 rw [this];exact hg):=h
def aON(h:p:=by
 rw [JC h0 A0 j0,af9 h0 A0 j0]
 by_cases e:j=s.i
 ·subst e
  rw [AD rfl,AD rfl,hx',hy'];exact ⟨rfl,rfl⟩
 ·rw [AE e,AE e]
  exact hA j j0 A0):=h
def aOO(h:p:=by
 rw [AE (show ¬Fg (Be s.p.ca s.i) (CH s.p.mi s.i) (AG s.p.gs s.i).2.2.1 (Bk (AG s.p.gs s.i)<|BJ s.p.st s.i)>Bk (AG s.p.gs s.i) (BJ s.p.st s.i) from KI c5)];rfl):=h
def nz(h:p:=by
 rintro s ⟨h0,h1,h2⟩
 exact ⟨A0,A0,h1,h2⟩):=h
def aNq(h:p:=by
 have c1:s.i<s.k:=AX
 refine .inr ⟨rfl,rfl,s.i.toNat,Aa,?_⟩
 have hg:Wx s s.i=false:=aPu
 exact hg):=h
def aNr(h:p:=by (have hx:=Qz s hI AX;obtain ⟨w1,w2⟩:=jT hI<|Qv hI c2;have hh:=Ig.1<|hI.2.2.2.1.has _ hx.1;have hb:=hI.2.1;(first|rw [w2] |rw [w1]);omega)):=h
def cA(h:p:=by
 rw [q3,hn,hl,FA A0,hE.1] at hk
 grind):=h
def cB(h:p:=by
 have c1:s.m<=s.i:=AX
 exact bZ):=h
def aNs(h:p:=by
 simp only [okV];refine AU.Cm λi x hx=>?_
 rw [Dr] at hx;cases hq:first.toList[i]? with
 |none=>simp [hq] at hx
 |some q=>simp [hq] at hx;subst hx;exact (ev q).2):=h
def aNt(h:p:=by
 refine ⟨hc.rw,?_,hc.near,hc.len,hc.old,hc.new,hc.KH⟩;exact hF1'.mono (Au _) (λ_ _=>rfl) (λ_ h=>h) λb hz=>hc.near.block b (hW.Bc b hz)<|hW.qq hz):=h
def aNu(h:p:=by
 simp only [okV];refine AU.Cm λi x hx=>?_
 rw [Dr] at hx;cases hq:cap.toList[i]? with
 |none=>simp [hq] at hx
 |some q=>simp [hq] at hx;subst hx;exact (ev q).2):=h
def aNv(h:p:=by
 split at h
 ·split at h
  ·split at h
   ·simp only at h
    split at h
    ·rename_i hb;exact ⟨_,hb,ak⟩
    ·cases h
   ·cases h
  ·cases h
 ·cases h):=h
def nr(h:p:=by exact val (v:=z) (λw' _=>KN) e2 e3):=h
def aNw(h:p:=by
 have c1:s.t11<3:=AX
 rw [AI (x:=s.t11+1)];exact ⟨⟨ht,⟨Aa,Aa⟩,h1,h2⟩,by simp only [iD];omega⟩):=h
def aNx(h:p:=by
 rename_i x ho;simp only [T.all,Az] at h;refine val h.2.symm (v:=a.eval x) (by simp [execOp,ho]) ?_ ?_<;>rw [<-h.1]
 ·exact (ev x).1
 ·exact (ev x).2):=h
def aNy(h:p:=by
 intro s hI;refine ⟨λc1=>⟨?_,λ_=>trivial,λ_=>trivial⟩,λ_=>trivial⟩
 ·(obtain ⟨⟨h0,h1⟩,h2,h3,h4⟩:=hI;simp only [Ac] at c1;omega)):=h
def aNz(h:p:=by
 rename_i x ho;simp only [T.all,Az] at h;refine val (v:=a.eval x) (λw' _=>by simp [execOp,ho]) ?_ ?_<;>rw [<-h.1]
 ·exact (ev x).1
 ·exact (ev x).2):=h
def cC(h:p:=by
 show (w.heap.push _)[w.heap.size]? =_
 simp):=h
def aO0(h:p:=by
 rename_i t m i x ho;unfold Ay at h;simp only [ho] at h;obtain ⟨H1,h1,h2⟩:=T.B7 h;simp only [T.all,Az] at h2;obtain ⟨_,rfl⟩:=h2;exact af7 h1):=h
def E4(h:p:=by simp only [R]):=h
def aO1(h:p:=by
 refine AU.Cm λi x hx=>?_
 cases hq:args.toList[i]? with
 |none=>simp [hq] at hx
 |some q=>simp [hq] at hx;subst hx;exact Wh (hF.eval hW.Cy q).2):=h
def zl(h:p:=by
 simp only [Ty.n] at hj
 have:j=0:=A0
 subst this;exact ⟨_,h,rfl⟩):=h
def aO2(h:p:=by
 unfold R8;split
 ·rename_i op t x z _ ho
  simp only [e x EU,e z EU]
 ·rfl):=h
def zm(h:p:=by
 unfold MF;simp only [Cl,CY,ne_eq] at*;simp only [yw,HN,DI];omega):=h
def aO3(h:p:=by
 refine .inr ⟨q1,q2,?_⟩;rw [IX];intro hx
 have:=(Qo (d:=(0:Y))).2 hx j A0
 exact Bool.noConfusion<|this.symm.trans q4):=h
def aO4(h:p:=by rw [ade<|FT<|hl q.2 aPt]):=h
def zn(h:p:=by
 rintro s ⟨h0,h1,h2⟩
 exact ⟨A0,oe,h2⟩):=h
def cD(h:p:=by
 have c1:s.k<=s.i:=A8
 exact zg):=h
def aO5(h:p:=by
 rw [e8.block k A0 λhm=>?_]
 ·exact hc.near.block k hk hn
 ·rcases hc.touch hst hm with h|h
  ·omega
  ·exact hn h):=h
def nt(h:p:=by (have hx:=Qz s hI AX;omega)):=h
def nq(h:p:=by
 rintro s ⟨h0,h1⟩
 exact ⟨A0,h1⟩):=h
def zi(h:p:=by
 obtain ⟨y,zs,rfl,rfl,_⟩:=h;simp only [RD];exact hc 0 _ rfl):=h
def zj(h:p:=by
 rw [q1,q2,Nd j q3 q4];exact ⟨λ_=>rfl,λc=>DP⟩):=h
def aNk(h:p:=by
 have:Cn (r::rs) (x-i)=Cn rs (x-(i+1)):=by
  unfold Cn;rw [show (x-i).toNat=(x-(i+1)).toNat+1 by omega]
  simp
 grind):=h
def aNl(h:p:=by
 split
 ·rename_i cs _
  exact ⟨True,.own k 0,⟨cs,t,.cl,X⟩,λH K=>aR7⟩
 ·exact Sz):=h
def aNm(h:p:=by
 go_enter func238,Tryz.ntmps238
 go_wp2
 refine wp_loop_rounds 1 ?_;rw [rounds_succ]
 go_wp2
 go_ret
 exact ⟨rfl,rfl⟩):=h
def zk(h:p:=by simp only [Aj] at hx;subst hx;simp only [R] at h1;rw [h1]):=h
def aNn(h:p:=by
 have c1:s.i<s.n:=A8
 rw [AI (x:=s.i+1)];exact ⟨⟨A8,A8,h2,h3⟩,by simp only [yI];omega⟩):=h
def aNo(h:p:=by
 simp only [Cl,CY,ne_eq,CS,HN,Ac,DI,MJ,QO] at*
 (first|decide|(clear fin w0 w1a w1b w1c w4a w4b;omega))):=h
def aNp(h:p:=by
 split
 ·exact ⟨go _<|di h hdd _,pass _<|di h hdd _⟩
 ·exact ⟨pass _<|di h hdd _,go _<|di h hdd _⟩):=h
def aOr(h:p:=by
 rename_i x ho;unfold Ay at hs;simp only [ho,T.all,Az] at hs;exact other _ hs.1.symm hs.2.symm λj hj=>TB hj):=h
def aOs(h:p:=by
 split at hx
 ·obtain ⟨rfl,_,hx⟩:=hx;exact ⟨_,_,hx⟩
 ·obtain ⟨_,ad,hx,_⟩:=hx;exact ⟨_,_,hx⟩):=h
def zx(h:p:=by exact ⟨A0,A0,h2⟩):=h
def o6(h:p:=by rw [c] at f g x|-;exact ⟨f,g,x,h.kp⟩):=h
def aOt(h:p:=by
 split at hx
 ·rename_i hk;subst hk;simp only [Aj] at hx;subst hx;simp only [R] at h1;rw [h1]
 ·cases hx):=h
def aOu(h:p:=by exact sO s _ hI AX aQy rfl rfl rfl rfl rfl rfl rfl rfl rfl rfl):=h
def aOv(h:p:=by exact sM s _ hI AX aQy rfl rfl rfl rfl rfl rfl rfl rfl rfl rfl):=h
def aOw(h:p:=by
 split
 ·rename_i zs hz
  simp only [R]
  have:=aRt hz h
  rw [<-this]
 ·simp only [R];exact ⟨ys,rfl,aH1 h⟩):=h
def aOx(h:p:=by
 refine (af8 _ A6).2.trans ?_;rw [h7]
 show FH _ 0 _ ((M s.p.AK.tg:Y)-0).toNat=_
 rw [QJ,C2,aqe];rfl):=h
def aOy(h:p:=by
 refine AH (λc5=>?_) λc5=>?_
 ·refine AH (λc6=>?_) (λc6=>?_)
  ·exact bX
  ·exact bX
 ·exact bX):=h
def NH(h:p:=by exact gen<|same h):=h
def aOz(h:p:=by
 rename_i x ho;refine ⟨True,AM G F x,aj,λH K=>?_⟩
 unfold IJ Ay;rw [h1,h2]
 simp [ho,T.all,putAt]):=h
def zy(h:p:=by
 rw [AE e,h5 j j0 j1]
 by_cases q:j<s.i
 ·omega
 ·omega):=h
def aP0(h:p:=by
 rintro s ⟨h0,h1,h2,h3,h4⟩
 exact ⟨A0,A0,h2,h3,h4,GN,λj hj=>A0⟩):=h
def aP1(h:p:=by
 have:=Tu n<|(au<|len*m).map λi=>z.cells[i%z.cells.size]!
 simpa [HM,Zp] using this):=h
def aP2(h:p:=by
 rw [KP];exact hF.mono (Au _) (λ_ _=>rfl) (λ_ h=> .inl<|.inl h) λb hz=>EJ hbw<|hW.Bc b hz):=h
def zz(h:p:=by
 simp only [AY,Cl] at hcalm
 simpa using hcalm.1.1.2):=h
def aP3(h:p:=by
 unfold IL;split
 ·rename_i hc
  split
  ·rw [JC h.1 h.2 hj]
   split
   ·grind
   ·omega
  ·omega
 ·omega):=h
def aP4(h:p:=by exact ⟨⟨Aa,Aa,h2,h3,h4,h5,h6⟩,by simp only [iC];omega⟩):=h
def aP5(h:p:=by
 simp only [C8];exact R.mono (n:=M H) (λ_ _=>rfl) (λ_ h=> .inl h) (λ_ _=>rfl) _ _ hk h):=h
def aP6(h:p:=by
 obtain ⟨_,_,h6,_⟩:=hI;simp only [Ac] at c3;rw [<-h6] at c3
 have:=h.2
 unfold Ff at this;omega):=h
def o7(h:p:=by exact .inr<|.inr<|.inr<|.inr rfl):=h
def VL(h:p:=by exact ⟨rfl,A0⟩):=h
def aP7(h:p:=by
 rintro s ⟨ht,h0,h1,h2,h3⟩
 exact ⟨ht,⟨A0,A0⟩,h1,A8,A8⟩):=h
def o9(h:p:=by
 unfold hpx;simp only [ho];exact nQ):=h
def aP8(h:p:=by
 rw [I0 A0,show (M fl:Y) / 2=((M fl / 2:aC):Y) by omega]
 exact AI):=h
def aOY(h:p:=by
 have h1:(0:Y)<=(x:Y)/\(x:Y)<=(y:Y):=A0
 simp [Instr.sliceBound,asIntOf,h1]):=h
def T3(h:p:=by
 simp only [ho];rw [e]):=h
def aOZ(h:p:=by
 rename_i x ho;unfold Ay;simp only [ho];rw [FT<|hl x EU];rfl):=h
def aOa(h:p:=by exact R.mono (n:=0) (λ_ hk=>absurd hk A0) (λ_ h=>h) (λ_ _=>rfl) _ _ hk hr):=h
def aOb(h:p:=by
 subst h;exact EvL.set hb ⟨λhc=>aAb,λ_ _ _=>trivial,λh=>h⟩):=h
def aOc(h:p:=by
 have c1:s.n<=s.i:=AX
 exact .inl ⟨rfl,λj hj=>h6 j A0⟩):=h
def aOd(h:p:=by
 rcases hz with hz|⟨k,bk,_,h2,h3,rfl⟩
 ·exact hW.Bc b hz
 ·exact hW.lt h2 h3):=h
def aOe(h:p:=by
 simp only [canX,R] at h|-;obtain ⟨ys,h1,h2⟩:=h;exact ⟨ys,h1,canL_R h2⟩):=h
def aOf(h:p:=by
 rw [hj.V7,hj.cl]
 have:apF 512 fl (B3 x)=false:=NI
 rw [this];rfl):=h
def QW(h:p:=by simpa using this):=h
def zu(h:p:=by exact ⟨Z2,β2,c1,c2,by rw [c3];simp⟩):=h
def aOg(h:p:=by
 rw [KP];exact hF.mono (Au _) (λ_ _=>rfl) (λ_ h=> .inl h) λ_ _=>rfl):=h
def aOh(h:p:=by exact main _ es clock _ _ hr g1 g2 g3 hl b2.2 h<|.inr ⟨k,rfl,rfl⟩):=h
def aOi(h:p:=by
 (try simp only [T.all] at hv)
 (try simp only [T.all])
 rw [Lb a2];exact hv):=h
def aOj(h:p:=by
 simp only [R,Value.func.injEq,Fn.yield.injEq] at this;exact this.1.symm):=h
def NG(h:p:=by
 unfold mx;omega):=h
def aOk(h:p:=by
 split
 ·omega
 ·have:=fq (x:=a-mi) (st:=st) A0 A0
  omega):=h
def aOl(h:p:=by exact EvL.set hb ⟨λhc=>aAb,λ_ _ h=>h,λh=>h⟩):=h
def aOm(h:p:=by
 unfold G7 chW at this;simp only [AY,B8] at this;exact Ig.2 A0):=h
def zv(h:p:=by exact ⟨A0,A0,h2,h3,h4⟩):=h
def aOn(h:p:=by
 rw [AD q2,I1 DK,Gp DK]
 congr 1
 simp
 omega):=h
def aOo(h:p:=by
 have:=Ig.1 h
 have:=fq (x:=ma-mi) (st:=st) A0 A0
 omega):=h
def aOp(h:p:=by
 obtain ⟨h1,h2⟩:=qt b fs (k+1) i h;refine ⟨A0,?_⟩
 grind):=h
def zw(h:p:=by rw [<-h];exact WT<|by simpa using f2):=h
def o5(h:p:=by
 split at h
 ·grind
 ·cases h):=h
def aOq(h:p:=by
 split at h
 ·rename_i hkk
  simp only [R,okV] at hr hk
  grind
 ·cases h):=h
def aOP(h:p:=by
 rcases q2 with e2|e2<;>rw [e2] at hy
 ·exact hy
 ·exact aGy.subset hy):=h
def aOQ(h:p:=by
 rw [AD q1];simp only [Zt,Cw];rw [I1 DK,aNX q1]
 simp):=h
def aOR(h:p:=by
 obtain ⟨j,⟨h0,h1⟩,rfl⟩:=aG9 ha
 have:=iE<|h.ch h0 h1
 omega):=h
def zt(h:p:=by
 have e1:=e1 w λ_ _=>rfl
 exact bS):=h
def aOS(h:p:=by
 rw [hv] at s2;rw [ad3 hg hd s2,AE AJ];exact passOk F hF h):=h
def aOT(h:p:=by
 have:=key c b a ha.1 h1 h2 hc.2
 rw [sw c b,sw b a] at this;omega):=h
def aOU(h:p:=by
 have:fs.toList[M fpre]? =ah f:=by rw [e1];simp
 exact QW):=h
def aOV(h:p:=by (obtain ⟨h0,h1,h2,h3,h4⟩:=hI;simp only [Ac] at c1;omega)):=h
def aOW(h:p:=by
 rintro s ⟨h0,h2,h3,h4,h5⟩
 exact ⟨A0,h2,h3,h4,h5⟩):=h
def aOX(h:p:=by
 have:es=[]:=GN
 subst this;exact .inr ⟨rfl,h.symm⟩):=h
def aPL(h:p:=by exact ext q g n.toNat A0 hle A0 hr hk h.symm):=h
def aA3(h:p:=by rw [hl];simpa only [okV] using hk):=h
def aPM(h:p:=by exact val (v:=z) (λw' _=>aR6) f2 f3):=h
def cH(h:p:=by
 split
 ·grind
 ·grind):=h
def aPN(h:p:=by
 have:=h.2
 unfold Jc at this;split at this
 ·assumption
 ·omega):=h
def aA4(h:p:=by
 split at h
 ·cases h;rfl
 ·cases h):=h
def aPO(h:p:=by
 rintro s ⟨h0,h2,h3⟩
 exact ⟨A0,A0,h2,h3⟩):=h
def aPP(h:p:=by
 have:es=[]:=GN
 subst this;exact .inr ⟨rfl,rfl⟩):=h
def aA5(h:p:=by rename_i hc;exact absurd hc hcap):=h
def aPQ(h:p:=by
 have hG':=hG
 simp only [GX,EX,hb,T.all] at hG';exact hG'.1):=h
def aPR(h:p:=by
 simp only [T.all,Az] at h;rw [<-h.2.2];exact EvL.app _ _):=h
def aPS(h:p:=by exact ⟨ti hI AX<|Qv hI c2,rfl,rfl⟩):=h
def aPT(h:p:=by
 unfold hpx;simp only [ho];rw [qj (λcs b e=>A8) h]):=h
def aPU(h:p:=by
 rintro s ⟨h0,h2,h3,h4⟩
 exact ⟨A0,h2,h3,h4⟩):=h
def aPV(h:p:=by
 unfold az;simp only [yielded,hd,Oh,hv]
 grind):=h
def aPW(h:p:=by rename_i x ho;rw [e x EU]):=h
def aPX(h:p:=by rw [AE hs];exact ⟨λh=>h.elim,λh=>absurd h.1 hs⟩):=h
def aPY(h:p:=by
 unfold PK.isC at hh;simp only [ne_eq,Sm,B8] at hh;omega):=h
def aPZ(h:p:=by exact val h2 (v:=z) aR6 f2 f3):=h
def aPa(h:p:=by
 refine AH (λc6=>?_) λc6=>?_
 ·exact aNi
 ·exact aNi):=h
def aPb(h:p:=by
 rw [LN] at hv;split at hv
 ·exact hc j v hv
 ·cases hv):=h
def aA6(h:p:=by exact .inr ⟨i',.inl h1,h2⟩):=h
def aPc(h:p:=by
 simp [IntKind.wrap,IntKind.bits,IntKind.signed]
 omega):=h
def oC(h:p:=by
 unfold mx;split<;>omega):=h
def aPd(h:p:=by
 rcases mem_set hm with hm|rfl
 ·exact h.mi m hm
 ·simp):=h
def aPe(h:p:=by
 refine ⟨λc7=>?_,λc7=>?_⟩
 ·exact np
 ·exact np):=h
def aPC(h:p:=by
 refine ⟨λc7=>?_,λc7=>?_⟩
 ·exact aNc
 ·exact aNc):=h
def aPD(h:p:=by
 refine ⟨λc8=>?_,λc8=>?_⟩
 ·exact aNd
 ·exact aNd):=h
def aPE(h:p:=by exact T.BQ (λz hz=>by simp only [T.all];rw [hz]) h):=h
def aA0(h:p:=by
 obtain ⟨h1,h2⟩:=adZ h
 grind):=h
def aPF(h:p:=by
 refine AH (λc6=>?_) λc6=>?_
 ·cases c5
 ·cases c5):=h
def aPG(h:p:=by
 rw [BG]
 show s.n+1-((M s.D2+1:aC):Y)=_
 omega):=h
def aA1(h:p:=by
 rw [bad he Ad,he];rfl):=h
def aPH(h:p:=by
 by_cases hji:(j:Y)<s.i
 ·exact h6 j hji
 ·exact aOM):=h
def aPI(h:p:=by
 by_cases hji:(j:Y)<s.i
 ·exact h4 j hji
 ·exact aOM):=h
def aA2(h:p:=by
 rintro s ⟨h0,h2⟩
 exact zx):=h
def A0(h:p:=by omega):=h
def A8(h:p:=by grind):=h
def Dk(h:p:=by first|omega|exact ⟨rfl,rfl⟩ |exact ⟨rfl,by simp⟩ |exact ⟨by simp,by simp⟩ |(rw [CV];omega)):=h
def AX(h:p:=by simpa using c1):=h
def Aa(h:p:=by simp only;omega):=h
def AJ(h:p:=by simp):=h
def AV(h:p:=by kernel_rfl):=h
def aPJ(h:p:=by unfold U6;(obtain ⟨e0,e1,e2,e3,e4⟩:=h3;have hb:=e3 (gi s.l s.i).toNat;have c2:=c2;rw [AI (x:=s.sums.getD (gi s.l s.i).toNat (Ty.dflt A7)+s.more) (by show _<=s.sums.getD (gi s.l s.i).toNat 0+s.more;omega) (by show s.sums.getD (gi s.l s.i).toNat 0+s.more<=_;omega)] at c2;unfold Kz;first|(have c3:(!(an<|s.sums.getD (gi s.l s.i).toNat 0+s.more<=(Cn s.BH<|gi s.l s.i).1))=true:=c2;simpa using c3) |(have c3:(!(an<|s.sums.getD (gi s.l s.i).toNat 0+s.more<=(Cn s.BH<|gi s.l s.i).1))=false:=c2;simpa using c3))):=h
def ML(h:p:=by first|omega|exact ⟨rfl,rfl⟩ |exact ⟨rfl,by simp⟩ |(rw [CV];omega)):=h
def Ad(h:p:=by decide):=h
def oA(h:p:=by first|omega|exact ⟨rfl,rfl⟩ |exact ⟨rfl,by rw [C2];first|exact l1.symm|exact l2.symm|exact l3.symm⟩ |exact ⟨rfl,by simp⟩ |exact ⟨by simp,by simp⟩ |(rw [CV];omega)):=h
def As(h:p:=by cases h):=h
def EU(h:p:=by rw [ho];simp [Op.operands]):=h
def aPK(h:p:=by unfold OQ;(simp only [show an (s.i<1)=X from IV<|by omega,DC];(simp only [chB,chA];revert c2;generalize Ja s.text s.i=b;intro c2;by_cases h1:b>=97<;>by_cases h2:b<=122<;>by_cases h3:b>=48<;>by_cases h4:b<=57<;>simp_all))):=h
def VO(h:p:=by simp [execOp,ho,resolve,invoke,builtin,Builtin.len_,ha,ht,Cj hu,e1,goInt]):=h
def Dl(h:p:=by simpa using c2):=h
def VM(h:p:=by simp only [renV,okV];have:=(aEj 0<|ho k<|by simp [owns]).2.2;omega):=h
def aP9(h:p:=by unfold Tx;(first|(have c2:(!(inB (OZ s.l s.i).2 0<|AA<|(M s.BP:Y)-1))=false:=c2;simpa using c2) |(have c2:(!(inB (OZ s.l s.i).2 0<|AA<|(M s.BP:Y)-1))=true:=c2;simpa using c2))):=h
def cE(h:p:=by rw [ho];simp only [Op.operands,Call.operands,apl];exact .inr<|by grind):=h
def aPA(h:p:=by unfold Tz;(first|(have c2:(!(G7 (M s.BE) (M s.Bg)<|AG s.l s.i))=false:=c2;simpa using c2) |(have c2:(!(G7 (M s.BE) (M s.Bg)<|AG s.l s.i))=true:=c2;simpa using c2))):=h
def VN(h:p:=by simp only [RD] at*;rw [<-h];exact hb 0<|by simp [Ty.n]):=h
def DK(h:p:=by simp;omega):=h
def J3(h:p:=by simp [owns]):=h
def cF(h:p:=by simp only [C8,okV] at*;exact aEn h λx hx=>Qj H hH d x hx):=h
def cG(h:p:=by unfold Fz;rw [hw D (hW.Cv D hD).1];exact (hW.Cv D hD).2):=h
def aPB(h:p:=by unfold U1;(first|(have c2:(!(F4 s.i<|AZ s.l s.i))=false:=c2;simpa using c2) |(have c2:(!(F4 s.i<|AZ s.l s.i))=true:=c2;simpa using c2))):=h
def T4(h:p:=by have:=hW.lt hj lj;simp only at e;omega):=h
def aPq(h:p:=by unfold U5;(first|(have c2:(!(ID<|gi s.l s.i))=false:=c2;simpa using c2) |(have c2:(!(ID<|gi s.l s.i))=true:=c2;simpa using c2))):=h
def cP(h:p:=by simp only [renV,okV,owns] at*;exact ren_okL l ho hk):=h
def VW(h:p:=by simp [aA,Instr.sameNow,hk.1,hb]):=h
def KN(h:p:=by simp [execOp,ho,e1]):=h
def cQ(h:p:=by simp only [okV,noOwn] at*;exact noOwnL_ok l h hk):=h
def cR(h:p:=by simp only [owns,okV] at*;exact okL_owns l hk j h):=h
def cS(h:p:=by simp only [owns,okV] at*;exact okL_lower l hk h):=h
def Ol(h:p:=by rw [w7] at c3;exact DJ c3):=h
def azz(h:p:=by rw [C2];first|exact l1.symm|exact l2.symm|exact l3.symm):=h
def I3(h:p:=by simpa using c):=h
def DP(h:p:=by cases c):=h
def oH(h:p:=by simp [execOp,ho,e1,e2,eqGuard,binOp,Op.shift,QK.2 h0]):=h
def QY(h:p:=by rw [<-yu (xs:=args),hargs]):=h
def QZ(h:p:=by unfold PK.isC;simpa using c):=h
def cU(h:p:=by simp only [R,okV] at*;rw [hβ k hk];exact h):=h
def aPr(h:p:=by show _<=s.sums.getD (gi s.l s.i).toNat 0+s.more;omega):=h
def aPs(h:p:=by show s.sums.getD (gi s.l s.i).toNat 0+s.more<=_;omega):=h
def oJ(h:p:=by simp only [R] at*;rw [hj k<|by simp [owns]];exact h):=h
def T5(h:p:=by simp only [aEc,aEb,aEa];exact h3):=h
def cV(h:p:=by have:=hW.Bc _ hz;simp only at this;omega):=h
def VX(h:p:=by simp [owns] at h;subst h;exact hk):=h
def oK(h:p:=by simp [execOp,ho,e1,e2,eqGuard,binOp,Op.intDiv,h0]):=h
def aPt(h:p:=by rw [ho];simp only [Op.operands];first|exact FP.2 ⟨q,hq,rfl⟩ |(simp;exact ⟨q.1,by grind⟩)):=h
def aAB(h:p:=by rw [ho];simp only [Op.operands,apm,FP];exact ⟨q,hq,rfl⟩):=h
def cW(h:p:=by unfold HZ;simp only [MG,FQ];omega):=h
def KM(h:p:=by simp only [R]):=h
def aPj(h:p:=by simp only [R,b2];exact ⟨by omega,⟨w.heap.size,0,aj⟩,by simp,λ_=>by simp⟩):=h
def GN(h:p:=by simp_all):=h
def oE(h:p:=by simp only [okV] at*;exact AU.mono h l hk):=h
def QX(h:p:=by simp only [aEh];omega):=h
def MM(h:p:=by rw [he];decide):=h
def aPk(h:p:=by unfold U3;(obtain ⟨_,g1,g2⟩:=h3;rw [AI (x:=s.n-1)] at c2;simpa using c2)):=h
def VR(h:p:=by simp only [okV] at*;omega):=h
def NI(h:p:=by simpa using c3):=h
def cJ(h:p:=by show M p.gs<=1000;omega):=h
def VS(h:p:=by simpa only [R] using hh):=h
def oF(h:p:=by simp only [BG,GK,Bm,C3];omega):=h
def cK(h:p:=by rw [<-e1,<-e2];exact hc.rf):=h
def aPl(h:p:=by unfold L0;cases e1:B2 l<;>cases e2:inB t 0 1100000<;>simp_all):=h
def cM(h:p:=by simp [Ty.n]):=h
def oG(h:p:=by unfold Ay;simp only [ho,hm,ht]):=h
def VT(h:p:=by rw [AY,B8,B8];omega):=h
def aA9(h:p:=by show (M s.p.AK.gs:Y)<=1000;omega):=h
def aPm(h:p:=by simp [execOp,ho,e1,e2,Instr.index,asIntOf,Cj hu,h0,Ja,hg]):=h
def VU(h:p:=by simp [World.setRow]):=h
def aPn(h:p:=by have:=hb j;(try simp only []);split<;>(try split)<;>omega):=h
def aAA(h:p:=by simp only [RD] at*;rw [Qc hb];exact h):=h
def MN(h:p:=by simp [okV]):=h
def aPo(h:p:=by show ((M (MT<|Lg d t).out:aC):Y)<20;omega):=h
def cN(h:p:=by rw [hv.Ew];exact Au _):=h
def aPp(h:p:=by simp only [II,T.lv,Keeps];exact ⟨h.1,h.2,ak⟩):=h
def aPf(h:p:=by unfold LK;rw [wa];simp only [Dq];rw [Bs h0,<-hb];rfl):=h
def cI(h:p:=by rw [<-e2];exact hc.rw):=h
def aA7(h:p:=by simp only [RD] at*;exact qS h o' hh):=h
def oD(h:p:=by simp [getObj,Sem.run,hh']):=h
def aPg(h:p:=by unfold leB;rw [wa];simp only [F5];rw [Bs h0,<-hb]):=h
def LU(h:p:=by cases hb):=h
def VQ(h:p:=by simp [owns] at h):=h
def aA8(h:p:=by show (M cs:Y)<=1000;omega):=h
def aPh(h:p:=by have:=hf 0;simp at this;simp [List.getD,<-this]):=h
def aPi(h:p:=by simp [IntKind.wrap,IntKind.bits,IntKind.signed]):=h
def oR(h:p:=by simp [az,hg]):=h
def oS(h:p:=by simp only [R];rw [hv,e]):=h
def aQF(h:p:=by simp only [R] at*;rw [h,hj k<|by simp [owns]]):=h
def oT(h:p:=by simpa only [DU] using h):=h
def oU(h:p:=by simpa only [Gb] using h):=h
def aQG(h:p:=by unfold V8;(simp only [inB];simp at c2|-;omega)):=h
def aQH(h:p:=by have:=hf<|j+1;simpa [Hw,zM 1 j] using this):=h
def aQI(h:p:=by have:=ho<|j+1;simpa [Hw,zM 1 j] using this):=h
def aQJ(h:p:=by unfold AB.owns;rw [hbk];exact Bf.2<|.inr hj):=h
def aAF(h:p:=by rw [sD<|by omega];exact Gl _):=h
def aQK(h:p:=by simp [Array.getD,show 0<1+vals.size by omega]):=h
def VZ(h:p:=by simp at c;omega):=h
def aQL(h:p:=by unfold Tw;(simp only [Ac,DI] at c2|-;omega)):=h
def oV(h:p:=by simp only [Ty.n];omega):=h
def oW(h:p:=by simpa [NX,ho] using ht):=h
def aQM(h:p:=by unfold U4;(unfold Jd inB;simp at c2|-;omega)):=h
def aAG(h:p:=by simp only [Act.eval];exact hv):=h
def aQN(h:p:=by unfold G6;rw [AD hp,AE (by rw [q3];simp)]):=h
def T6(h:p:=by simp [BC,hb]):=h
def oY(h:p:=by simp only at hj;omega):=h
def aAH(h:p:=by show ((0:aC):Y)<=0;decide):=h
def aQO(h:p:=by rw [I0<|by omega];exact VB _<|by omega):=h
def aAI(h:p:=by simpa using BO.1 htr0 k hk):=h
def aAJ(h:p:=by rw [Dr,Di<|by omega];rfl):=h
def aQP(h:p:=by rw [ho];simp [Op.operands,Call.operands]):=h
def NJ(h:p:=by cases hk):=h
def aQ0(h:p:=by simp only [He];rw [AE λhh=>by omega]):=h
def aQ1(h:p:=by show p.AK.tk+1=_;rw [(Ic p).2.2.2.2.2.1]):=h
def aQ2(h:p:=by unfold lpC;rw [C2];exact rI<|by omega):=h
def aQ3(h:p:=by unfold leC;rw [C2];exact rI<|by omega):=h
def aQ4(h:p:=by simp [execOp,ho,Instr.makeFunc,hfirst]):=h
def aQ5(h:p:=by simp only [R] at hr|-;rw [Qk];exact hr):=h
def aQ6(h:p:=by unfold G6;rw [AD hp,AD q2,<-r1,<-w1]):=h
def cZ(h:p:=by simp [H9,h1,h2]):=h
def aQ7(h:p:=by rw [cell_of_block hc];simpa using h1):=h
def aQ8(h:p:=by simp [execOp,ho,e1,Instr.extract,e6]):=h
def aQ9(h:p:=by simp [execOp,ho,Instr.makeFunc,hcap]):=h
def aAC(h:p:=by simp [az,hgd]):=h
def aQA(h:p:=by rw [aH0];exact λx hx=>h x<|by grind):=h
def VY(h:p:=by rw [<-e];rfl):=h
def oM(h:p:=by have:=DJ c1;omega):=h
def oN(h:p:=by rw [h5];exact NR _):=h
def aQB(h:p:=by show (M s.p.tg:Y)<=1000;omega):=h
def aQC(h:p:=by unfold Ik at hz;simpa [hi] using hz):=h
def cb(h:p:=by simpa using he):=h
def aQD(h:p:=by have:=RL.length hr;simpa using this):=h
def cd(h:p:=by rw [c1];decide):=h
def cf(h:p:=by rw [c2];decide):=h
def aAD(h:p:=by rw [<-hops];exact hcalm):=h
def aAE(h:p:=by unfold GS;rw [AD hc.1]):=h
def oQ(h:p:=by simp [noOwn] at h):=h
def aQE(h:p:=by unfold Tv;(try simp only []);omega):=h
def aPu(h:p:=by unfold Wx;(unfold raC Ce;simp_all)):=h
def aPv(h:p:=by rcases hc with e|e<;>rw [e]<;>simp):=h
def aPw(h:p:=by rw [VH];exact N8 l0.2<|by omega):=h
def aPx(h:p:=by unfold U2;(unfold tmB;rw [c2];rfl)):=h
def aPy(h:p:=by simp [stepG,stepG.exec,Frame.atR]):=h
def cX(h:p:=by rw [Gy];omega):=h
def cY(h:p:=by rw [h4];omega):=h
def oL(h:p:=by simp at c3;omega):=h
def aPz(h:p:=by show (M gs:Y)<=1000;omega):=h
def aQk(h:p:=by unfold Aw;(repeat' split)<;>simp):=h
def aQl(h:p:=by show (M ds:Y)<=5000;omega):=h
def aQm(h:p:=by rw [AE<|by decide] at hu;omega):=h
def Om(h:p:=by cases e):=h
def aQn(h:p:=by show [(se,_)]=[(se,fl)];rw [z2]):=h
def aQo(h:p:=by simpa only [GX,EX,hb] using hG):=h
def Vb(h:p:=by simp [Zp]):=h
def aQp(h:p:=by have:=okV_owns _ r3 k hk;omega):=h
def aQq(h:p:=by rw [Im<|by omega];exact Gl _):=h
def aAW(h:p:=by simp only [tF];omega):=h
def aQr(h:p:=by rw [aGz];exact hc y<|by grind):=h
def aQs(h:p:=by rw [Bs h0];exact ⟨u1,u2⟩):=h
def aAX(h:p:=by simpa [WA] using ht):=h
def aAY(h:p:=by simp [List.getD,hj]):=h
def aAZ(h:p:=by rw [WH.2 hv];decide):=h
def aAa(h:p:=by rw [KO];exact Au _):=h
def oa(h:p:=by simpa using hl):=h
def T7(h:p:=by cases hx):=h
def oe(h:p:=by rw [h0,h1];rfl):=h
def aQt(h:p:=by simpa only [GX,EX] using hG):=h
def aQu(h:p:=by simp [setObj,Sem.run,w',g1]):=h
def aAb(h:p:=by simp [AB.E5] at hc):=h
def Vc(h:p:=by simp [ho]):=h
def aQv(h:p:=by rw [hls];exact (Ia.1 ho).1):=h
def aQw(h:p:=by intro x hx;simp at hx;omega):=h
def aQx(h:p:=by rw [Bs h0,FJ,NQ h0 hm,hx']):=h
def aAN(h:p:=by rw [he];assumption):=h
def aQW(h:p:=by rw [EH.2 h] at c1;cases c1):=h
def aQX(h:p:=by rw [hsz];exact hW.Bc b' hz):=h
def aQY(h:p:=by simpa using (hW.gh p hp).2):=h
def aQZ(h:p:=by simp [execOp,ho,e1,asBool]):=h
def aQa(h:p:=by simp only [R] at*;exact h3):=h
def aQb(h:p:=by unfold D1.a Fg;rw [AD hB]):=h
def oZ(h:p:=by rw [c];decide):=h
def aAO(h:p:=by cases x<;>exact h):=h
def aAP(h:p:=by simp only [Bb,g2]):=h
def cj(h:p:=by simp at hl):=h
def aQc(h:p:=by simpa only [okV] using hk):=h
def aQd(h:p:=by simp only [DL,T.all] at h):=h
def aQe(h:p:=by simp only [C4];exact h10):=h
def aAQ(h:p:=by simp only [C8,R]):=h
def aQf(h:p:=by simp [getObj,Sem.run,g1]):=h
def aAR(h:p:=by rw [h5];exact e1):=h
def Va(h:p:=by cases hd):=h
def aAS(h:p:=by rw [TF,TF];omega):=h
def aAT(h:p:=by simp at c4;omega):=h
def aQg(h:p:=by rw [h2,BG,ad7,CV];omega):=h
def aAU(h:p:=by rw [hL];exact aFJ):=h
def aQh(h:p:=by simp only [C4];exact h9):=h
def aQi(h:p:=by rw [hb];exact TE _ _ _ _):=h
def aQj(h:p:=by rw [hB];exact TE _ _ _ _):=h
def aAV(h:p:=by rw [h.up];decide):=h
def aQQ(h:p:=by simpa using (ho 0).symm):=h
def aQR(h:p:=by simpa only [RL] using h):=h
def aQS(h:p:=by have:=(q2 hm).2.1;omega):=h
def aQT(h:p:=by rw [AD hh] at he;omega):=h
def aQU(h:p:=by rw [AY,B8,B8,e6];omega):=h
def aQV(h:p:=by rw [hw' r hzr];exact hh):=h
def cg(h:p:=by simp [RL]):=h
def aAK(h:p:=by simpa using hwt):=h
def aAL(h:p:=by simp [c0,T.all]):=h
def aAM(h:p:=by simp [c1,T.all]):=h
def aAj(h:p:=by simp [c2,T.all]):=h
def aAk(h:p:=by simp [c3,T.all]):=h
def aAl(h:p:=by simp [c4,T.all]):=h
def aAm(h:p:=by simp [c5,T.all]):=h
def aQz(h:p:=by rw [<-yu (xs:=ty),ht]):=h
def aR0(h:p:=by simpa [P1,ho] using hm):=h
def aR1(h:p:=by simpa [ownsL] using hj):=h
def aR2(h:p:=by rw [<-hL.len];exact ho):=h
def aR3(h:p:=by rw [hg];simpa using c5):=h
def aR4(h:p:=by rw [hb];exact ep _ _ _):=h
def aR5(h:p:=by rw [hB];exact ep _ _ _):=h
def aR6(h:p:=by simp [execOp,ho,e1,f1]):=h
def aAn(h:p:=by simpa using hx):=h
def Vf(h:p:=by rw [b2]):=h
def aAo(h:p:=by simp [N1] at h):=h
def aAp(h:p:=by simpa using hj):=h
def aR7(h:p:=by simp only [T.all,Em]):=h
def aAq(h:p:=by simpa using hk):=h
def aR8(h:p:=by simp [HL] at h1;omega):=h
def aAr(h:p:=by simpa using c4):=h
def aAs(h:p:=by rw [FQ];omega):=h
def aR9(h:p:=by rw [C2];exact s9 rfl):=h
def aRA(h:p:=by unfold Es;rw [AD hE]):=h
def aAt(h:p:=by rw [hE];decide):=h
def aAu(h:p:=by rw [hk];decide):=h
def aRB(h:p:=by simp only at hk;omega):=h
def aAc(h:p:=by simp [Bx,RL,R]):=h
def aQy(h:p:=by unfold G6;rw [AE hn]):=h
def og(h:p:=by rw [hl,h2]):=h
def aAd(h:p:=by rw [KO];omega):=h
def aAe(h:p:=by simpa using e):=h
def Ve(h:p:=by rw [h]):=h
def oh(h:p:=by simp [w']):=h
def LW(h:p:=by rfl):=h
def aAf(h:p:=by rw [<-hrec]):=h
def aAg(h:p:=by rw [sY,CV]):=h
def oo(h:p:=by simp [h]):=h
def oq(h:p:=by cases hi):=h
def ot(h:p:=by cases hp):=h
def aAh(h:p:=by simp at hk):=h
def aAi(h:p:=by rw [h1,h2]):=h
end Go
namespace Go.Proofs.YtpdndmobphnjcaaGreatDoor
abbrev _root_.Go.AA:Int→Int:=Go.IntKind.i64.wrap
theorem _root_.Go.A9 {α β:Sort _}{a:α}{b:β}:a=a∧b=b:=⟨rfl,rfl⟩
set_option maxRecDepth 100000
set_option maxHeartbeats 4000000
open Go.Proofs.Tryz
open Go.RowKit
structure More where
 g:Array Obj
 d:aC
instance:Inhabited More:=⟨⟨#[],0⟩⟩
open Go Go.RowKit
section
variable {P : Program} {ops : Array Oper} {md : Region.Mode} {G : Type} {D : World -> Prop} {C : G -> World -> Prop} {sp : Nat -> Bool}
def sC (P:aR) (w:aO) (v:aV):Result Next->Prop
 | .ok (.value u) w'=>w'=w/\u=v
 | .ok .skip w'=>w'=w/\v=undef
 | .ok (.enter f args) w'=>w'=w/\Calls P f args w (λe w''=>e=.returned v/\Below w.heap.size w w'')
 |_=>False
def Nj (P:aR) (o:aU) (a:bg) (w:aO) (v:aV):Prop:=sC P w v<|(execOp a.eval o).run P w
def calm (P:aR) (o:aU) (a:bg) (D:aO->Prop) (next:bg->Prop):Prop:=∃v,(∀w,D w->Nj P o a w v)/\next (a.put o.dst v)
def Dt (P:aR) (R:aV->aO->Prop):Result Next->Prop
 | .ok (.value v) w'=>R v w'
 | .ok .skip w'=>R undef w'
 | .ok (.enter f args) w'=>Calls P f args w' λe w''=>∃v,e=.returned v/\R v w''
 | .ok (.round l f tmps assign body) w'=>RoundIn Fence.wide 0 P l f tmps assign body w' λe w''=>∃v,e=.returned v/\R v w''
 |_=>False
abbrev Dy (r:bp):Fence:={Fence.wide with round:=r}
def semAt_eq {o:aU}{r:bp}{ρ:aXT->aV}(h:∀c,o.op≠ .defer c):o.semAt r ρ=execOp ρ o:=by
 unfold Oper.semAt;split
 ·rename_i c hc
  grind
 ·rfl
def aFB {o:aU}{ρ:aXT->aV}{w:aO}{c:Call}(h:o.op=.defer c):(∃d w',(execOp ρ o).run P w=.ok (.defer d) w')\/(∃x w',(execOp ρ o).run P w=.halt x w'):=by
 unfold execOp;cases hr:(resolve ρ c o.type).run P w with
 |ok d w'=>left;exact ⟨d,w',GN⟩
 |halt x w'=>right;exact ⟨x,w',GN⟩
def UT (P:aR) (o:aU) (a:bg) (C:G->aO->Prop) (g:G) (K:bg->G->Prop):Prop:=
 ∀w,C g w->Dt P (λv w'=>∃g',C g' w'/\K (a.put o.dst v) g') ((execOp a.eval o).run P w)
def E9 (P:aR) (ops:aK) (D:aO->Prop) (C:G->aO->Prop) (sp:aC->aM) (i:aC) (K:bg->G->Prop) (a:bg) (g:G):Prop:=
 match ops[i]? with
 |none=>K a g
 |some o=>if az o (yielded ops a.tmps) then (if sp i then UT P o a C g K else calm P o a D λa'=>K a' g) else K (a.put o.dst undef) g
def rK {o:aU}{a:bg}{K K':bg->Prop}(h:∀a,K a->K' a) (hh:calm P o a D K):calm P o a D K':=
 let ⟨v,h1,h2⟩:=hh
 ⟨v,h1,h _ h2⟩
def LY {R R':aV->aO->Prop}(h:∀v w,R v w->R' v w) {r:Result Next}(hh:Dt P R r):Dt P R' r:=by
 cases r with
 |ok n w'=>
  cases n<;>simp only [Dt] at hh|-
  case value u=>exact h _ _ hh
  case skip=>exact h _ _ hh
  case enter f args=>exact hh.mono λe w'' ⟨v,he,hr⟩=>⟨v,he,h _ _ hr⟩
  case round l f tmps assign body=>exact hh.mono λe w'' ⟨v,he,hr⟩=>⟨v,he,h _ _ hr⟩
 |halt x w'=>simp only [Dt] at hh
def aGA {o:aU}{a:bg}{g:G}{K K':bg->G->Prop}(h:∀a g,K a g->K' a g) (hh:UT P o a C g K):UT P o a C g K':=
 λw hw=>LY (λ_ _ ⟨g',hc,hk⟩=>⟨g',hc,h _ _ hk⟩)<|hh w hw
def aHj {i:aC}{a:bg}{g:G}{K K':bg->G->Prop}(h:∀a g,K a g->K' a g) (hh:E9 P ops D C sp i K a g):E9 P ops D C sp i K' a g:=by
 unfold E9 at*;split
 ·grind
 ·rename_i o ho
  simp only [ho] at hh;split
  ·rename_i hw
   simp only [hw,Bu] at hh;split
   ·rename_i hs;simp only [hs,Bu] at hh;exact aGA h hh
   ·rename_i hs;simp only [hs] at hh;exact rK (λa=>h a g) hh
  ·grind
def Ki (P:aR) (md:aYa) (ops:aK) (D:aO->Prop) (C:G->aO->Prop) (sp:aC->aM) (Q:bg->G->Prop):aC->aZ->bg->G->Prop
 |0,listed,a,g=>ay md ops listed=[]/\Q a g
 |fuel+1,listed,a,g=>
  (ay md ops listed=[]->Q a g)/\
  ∀i∈ay md ops listed,E9 P ops D C sp i (Ki P md ops D C sp Q fuel<|listed.setIfInBounds i U) a g
def aFs {r:bp}{m l:aC}{f:bn}{tmps:aX}{assign body:bB}{w:aO}{R:Ending->aO->Prop}(h:RoundIn Fence.wide 0 P l f tmps assign body w R):RoundIn (Dy r) m P l f tmps assign body w R:=
 ⟨ak,λc cs _=>h.2 c cs<|room_wide _⟩
def aeS {o:aU}{a:bg}{K:bg->Prop}{K':bg->aO->Prop}{Q':aYb->bg->aO->Prop}{w:aO}(hw:D w)
  (h:∀a w',Below w.heap.size w w'->K a->K' a w') (hh:calm P o a D K) (r:bp) (m:aC):o.wpIn (Dy r) m P a w K' Q':=by
 obtain ⟨v,h1,h2⟩:=hh
 have h3:=h1 w hw
 unfold Nj at h3
 have hnd:∀c,o.op≠ .defer c:=λc hc=>by
  rcases aFB (P:=P) (ρ:=a.eval) (w:=w) hc with ⟨d,w',e⟩ |⟨d,w',e⟩<;>rw [e] at h3<;>simp only [sC] at h3
 refine ⟨λ_ _=>trivial,?_⟩
 rw [semAt_eq hnd];generalize (execOp a.eval o).run P w=r at*;cases r with
 | ok n w'=>
  cases n<;>simp only [sC] at h3<;>simp only [Oper.uponIn]
  case value u=>
   obtain ⟨e1,e2⟩:=h3;rw [e1,e2];exact h _ _ (Below.refl _ _) h2
  case skip=>
   obtain ⟨e1,e2⟩:=h3;rw [e1,<-e2];exact h _ _ (Below.refl _ _) h2
  case enter f args=>
   obtain ⟨e1,hc⟩:=h3;rw [e1];exact ⟨λh=>As,VD.2<|hc.mono λe w'' ⟨he,hw''⟩=>A8⟩
 |halt x w'=>simp only [sC] at h3
def aqE {o:aU}{a:bg}{g:G}{K:bg->G->Prop}{K':bg->aO->Prop}{Q':aYb->bg->aO->Prop}{w:aO}(hw:C g w)
  (h:∀a g w',C g w'->K a g->K' a w') (hh:UT P o a C g K) (r:bp) (m:aC):o.wpIn (Dy r) m P a w K' Q':=by
 have h3:=hh w hw
 have hnd:∀c,o.op≠ .defer c:=λc hc=>by
  rcases aFB (P:=P) (ρ:=a.eval) (w:=w) hc with ⟨d,w',e⟩ |⟨d,w',e⟩<;>rw [e] at h3<;>simp only [Dt] at h3
 refine ⟨λ_ _=>trivial,?_⟩
 rw [semAt_eq hnd];generalize (execOp a.eval o).run P w=r at*;cases r with
 | ok n w'=>
  cases n<;>simp only [Dt] at h3<;>simp only [Oper.uponIn]
  case value u=>obtain ⟨g',h1,h2⟩:=h3;exact h _ _ _ h1 h2
  case skip=>obtain ⟨g',h1,h2⟩:=h3;exact h _ _ _ h1 h2
  case enter f args=>
   exact ⟨λh=>As,VD.2<|h3.mono λe w'' ⟨v,he,g',h1,h2⟩=>A8⟩
  case round l f tmps assign body=>
   exact ⟨λh=>As,aFs<|h3.mono λe w'' ⟨v,he,g',h1,h2⟩=>A8⟩
 |halt x w'=>simp only [Dt] at h3
def adx (hD:∀g w,C g w->D w) (hkeep:∀g w w',C g w->Below w.heap.size w w'->C g w') {i:aC}{a:bg}{g:G}{K:bg->G->Prop}{K':bg->aO->Prop}{Q':aYb->bg->aO->Prop}{w:aO}(hC:C g w)
  (h:∀a g w',C g w'->K a g->K' a w') (hh:E9 P ops D C sp i K a g) (r:bp) (m:aC):wpOpIn (Dy r) m P ops Q' i K' a w:=by
 unfold E9 at hh;unfold wpOpIn;split
 ·grind
 ·rename_i o ho
  simp only [ho] at hh;split
  ·rename_i hw
   simp only [hw,Bu] at hh
   by_cases hs:sp i=U
   ·simp only [hs,Bu] at hh;exact aqE hC h hh r m
   ·simp only [hs] at hh;exact aeS (hD _ _ hC) (λa w' hb hk=>h a g w' (hkeep _ _ _ hC hb) hk) hh r m
  ·rename_i hw;simp only [hw] at hh;exact ⟨λ_ _=>trivial,h _ _ _ hC hh⟩
def ql (hD:∀g w,C g w->D w) (hkeep:∀g w w',C g w->Below w.heap.size w w'->C g w') {Q:bg->G->Prop}{Q':aYb->bg->aO->Prop}(hQ:∀a g w,C g w->Q a g->Q' .normal a w) (r:bp) (m:aC):
  ∀(fuel:aC) (listed:aZ) (a:bg) (g:G) (w:aO),C g w->Ki P md ops D C sp Q fuel listed a g->wpAnyIn (Dy r) m P md ops Q' fuel listed a w
 |0,_,_,_,_,hw,h=>⟨h.1,hQ _ _ _ hw h.2⟩
 |fuel+1,_,_,_,_,hw,h=>⟨λh0=>hQ _ _ _ hw<|h.1 h0,λi hi=>adx hD hkeep hw (λa' g' w' hw'=>ql hD hkeep hQ r m fuel _ a' g' w' hw') (h.2 i hi) r m⟩
def Ln (P:aR) (ops:aK) (D:aO->Prop) (o:aU) (v:aV) (a:bg):Prop:=
 (az o (yielded ops a.tmps)=U/\∀w,D w->Nj P o a w v)\/
 (az o (yielded ops a.tmps)=X/\v=undef)
def Ln.E9 {i:aC}{o:aU}{v:aV}{a:bg}{g:G}(hi:ops[i]? =ah o) (hs:sp i=X) (hy:Ln P ops D o v a) {K:bg->G->Prop}(h:K (a.put o.dst v) g):E9 P ops D C sp i K a g:=by
 unfold Go.Proofs.YtpdndmobphnjcaaGreatDoor.E9;simp only [hi];rcases hy with ⟨hw,hv⟩ |⟨hw,rfl⟩
 ·simp only [hw,Bu,hs,Hy,GL];exact ⟨v,hv,h⟩
 ·grind
def Ln.of_same {o:aU}{v:aV}{a a':bg}(hy:Ln P ops D o v a) (he:execOp a'.eval o=execOp a.eval o)
  (hw:az o (yielded ops a'.tmps)=az o (yielded ops a.tmps)):Ln P ops D o v a':=by
 unfold Ln Nj at*
 rwa [he,hw]
def ad2 {i:aC}{o:aU}{a:bg}{g:G}{K:bg->G->Prop}(hi:ops[i]? =ah o) (hs:sp i=X) (h:E9 P ops D C sp i K a g):∃v,Ln P ops D o v a/\K (a.put o.dst v) g:=by
 unfold E9 at h;simp only [hi] at h
 by_cases hw:az o (yielded ops a.tmps)=U
 ·simp only [hw,Bu,hs,Hy,GL] at h
  obtain ⟨v,h1,h2⟩:=h;exact ⟨v,.inl ⟨hw,h1⟩,h2⟩
 ·simp only [hw] at h
  exact ⟨undef,.inr ⟨A8,rfl⟩,h⟩
def avc {j:aC}{oi oj:aU}{v:aV}(hj:ops[j]? =ah oj) (hap:oi.apart ops oj=U)
  (hsi:∀cs b,oi.op≠ .select cs b) (hsj:∀cs b,oj.op≠ .select cs b) {K:bg->G->Prop} {a:bg} {g:G}
  (hy:Ln P ops D oi v a) (h:E9 P ops D C sp j K (a.put oi.dst v) g):
  E9 P ops D C sp j (λa' g'=>Ln P ops D oi v a'/\K (a'.put oi.dst v) g') a g:=by
 obtain ⟨h1,h2,h3⟩:=bP hap
 have keep:∀(a:bg),Ln P ops D oi v a->∀u,Ln P ops D oi v (a.put oj.dst u):=λa hy u=>
  hy.of_same (execOp_put oi hsi a oj.dst u h3) (wanted_put oi a oj.dst u h3)
 unfold E9 at*;simp only [hj] at*;rw [wanted_put oj a oi.dst v h1] at h;split
 ·rename_i hw
  simp only [hw,Bu] at h;split
  ·rename_i hs
   simp only [hs,Bu] at h;intro w hw'
   have:=h w hw'
   rw [execOp_put oj hsj a oi.dst v h1] at this;refine LY (λu w'' ⟨g',hc,hk⟩=>⟨g',hc,keep a hy u,?_⟩) this
   rw [<-Act.put_comm a v u h2];exact hk
  ·rename_i hs
   simp only [hs] at h;obtain ⟨u,hu,hn⟩:=h;refine ⟨u,λw hw'=>?_,keep a hy u,by rw [<-Act.put_comm a v u h2];exact hn⟩
   have:=hu w hw'
   unfold Nj at*
   rwa [execOp_put oj hsj a oi.dst v h1] at this
 ·rename_i hw
  simp only [hw] at h;exact ⟨keep a hy _,by rw [<-Act.put_comm a v undef h2];exact h⟩
def adO {Q:bg->G->Prop}{i:aC}{oi:aU}{v:aV}(hi:ops[i]? =ah oi) (hs:sp i=X) (hsel:∀(j:aC) (o:aU) cs b,ops[j]? =ah o->o.op≠ .select cs b):
  ∀(fuel:aC) (listed:aZ) (a:bg) (g:G),
   (∀j oj,ops[j]? =ah oj->j≠i->listed.getD j U=X->(∀e∈oj.after,Region.binds md e=U->e.on≠i)->oi.apart ops oj=U)->
   i∈ay md ops listed->Ln P ops D oi v a->
   Ki P md ops D C sp Q fuel (listed.setIfInBounds i U) (a.put oi.dst v) g->Ki P md ops D C sp Q (fuel+1) listed a g:=by
 intro fuel
 induction fuel with
 | zero=>
  intro listed a g _ hr hy H;refine ⟨λh=>A8,λj hj=>?_⟩
  by_cases hji:j=i
  ·subst hji;exact hy.E9 hi hs H
  ·have:=ready_mono hj hji
   rw [H.1] at this;cases this
 | succ fuel ih=>
  intro listed a g hfree hr hy H;refine ⟨λh=>A8,λj hj=>?_⟩
  by_cases hji:j=i
  ·subst hji;exact hy.E9 hi hs H
  ·have h1:=H.2 j (ready_mono hj hji)
   obtain ⟨hjun,oj,hoj,hall⟩:=Jp.1 hj
   have hnot:∀e∈oj.after,Region.binds md e=U->e.on≠i:=λe he hb heq=>by
    have h1:=hall e he hb
    have h0:=(Jp.1 hr).1
    rcases nZ i listed.size with h'|h'
    ·grind
    ·grind
   have h2:=avc hoj (hfree j oj hoj hji hjun hnot) (λcs b=>hsel i oi cs b hi) (λcs b=>hsel j oj cs b hoj) hy h1
   have hfree':∀k ok,ops[k]? =ah ok->k≠i->(listed.setIfInBounds j U).getD k U=X->
     (∀e∈ok.after,Region.binds md e=U->e.on≠i)->oi.apart ops ok=true:=λk ok hk hki hun hno=>by
    refine hfree k ok hk hki ?_ hno
    by_cases hjk:j=k
    ·grind
    ·simp_all
   refine aHj (λa' g' h3=>ih (listed.setIfInBounds j U) a' g' hfree' (ready_mono hr<|KL hji) h3.1 ?_) h2
   rw [Array.setIfInBounds_comm _ _ hji];exact h3.2
def IH (P:aR) (ops:aK) (D:aO->Prop) (K:bg->Prop):bh->bx->bg->Prop
 |f::fs,o::os,a=>if f then IH P ops D K fs os a else if az o (yielded ops a.tmps) then calm P o a D (IH P ops D K fs os) else IH P ops D K fs os (a.put o.dst undef)
 |_,_,a=>K a
def HA (P:aR) (ops:aK) (C:G->aO->Prop) (Q:bg->G->Prop):bh->bx->bg->G->Prop
 |f::fs,o::os,a,g=>if f then (if az o (yielded ops a.tmps) then UT P o a C g (HA P ops C Q fs os) else HA P ops C Q fs os (a.put o.dst undef) g) else HA P ops C Q fs os a g
 |_,_,a,g=>Q a g
def JU (md:aYa) (ops:aK) (flags:bh):aH->aZ->Bool
 | [],listed=>(ay md ops listed).isEmpty
 |i::is,listed=>(if flags.getD i X then ay md ops listed==[i] else (ay md ops listed).contains i&&Region.free md ops listed i)&&JU md ops flags is (listed.setIfInBounds i U)
def idxs (b:aM):bh->aC->List Nat
 | [],_=>[]
 |f::fs,k=>if f=b then k::idxs b fs (k+1) else idxs b fs (k+1)
def kv (ops:aK) (flags:bh):aM:=letI a:=idxs X flags 0++idxs U flags 0;Region.noSelect ops&&M flags==ops.size&&M a==ops.size&&JU .any ops flags a (Array.replicate ops.size X)
def aEo {flags:bh}{Q:bg->G->Prop}(hs:Region.noSelect ops=U):∀(is:aH) (listed:aZ) (a:bg) (g:G),
  JU md ops flags is listed=U->(is.foldr (λi K=>E9 P ops D C (λi=>flags.getD i X) i K) Q) a g->Ki P md ops D C (λi=>flags.getD i X) Q (M is) listed a g
 | [],_,_,_,hB,h=>⟨by simpa [JU] using hB,h⟩
 | i::is,listed,a,g,hB,h=>by
  simp only [JU,AY] at hB;obtain ⟨h1,h2⟩:=hB;simp only [nI] at h
  by_cases hf:flags.getD i X=U
  ·simp only [hf,Bu,Cl] at h1
   refine ⟨λh0=>A8,λj hj=>?_⟩
   rw [h1] at hj;obtain rfl:=Hz.1 hj;exact aHj (λa' g' hk=>aEo hs is _ a' g' h2 hk) h
  ·rw [AE hf,AY] at h1
   obtain ⟨hr,hfr⟩:=h1
   have hr':i∈ay md ops listed:=A8
   obtain ⟨_,oi,hoi,_⟩:=Jp.1 hr';obtain ⟨v,hy,hK⟩:=ad2 hoi A8 h;exact adO hoi A8 (Region.noSelect_spec hs) (M is) listed a g (Region.free_spec hoi hfr) hr' hy<|aEo hs is _ _ _ h2 hK
def aFA {flags:bh}{Q:bg->G->Prop}:∀(fs:bh) (os:bx) (k:aC),(∀j,fs[j]? =flags[k+j]?)->(∀j,os[j]? =ops[k+j]?)->M fs=M os->
  ∀(a:bg) (g:G),IH P ops D (λa=>Q a g) fs os a->((idxs X fs k).foldr (λi K=>E9 P ops D C (λi=>flags.getD i X) i K) Q) a g
 | [],[],_,_,_,_,_,_,h=>h
 | f::fs,o::os,k,hf,ho,hl,a,g,h=>by
  have ho0:ops[k]? =ah o:=aQQ
  have hf0:flags.getD k X=f:=aPh
  have ih:=aFA (Q:=Q) (flags:=flags) fs os (k+1) (λj=>aQH) (λj=>aQI) A8
  cases f with
  |true=>simp only [idxs,IH,Bool.true_eq_false,Bu,GL] at h|-;exact ih a g h
  |false=>
   simp only [idxs,IH,Bu,Hy,GL] at h|-;simp only [nI];unfold E9;simp only [ho0,hf0,Hy,GL];split
   ·rename_i hw;simp only [hw,Bu] at h;exact rK (λa' hk=>ih a' g hk) h
   ·rename_i hw;simp only [hw] at h;exact ih _ _ h
 | [],_::_,_,_,_,hl,_,_,_=>A8
 |_::_,[],_,_,_,hl,_,_,_=>A8
def aFK {flags:bh}{Q:bg->G->Prop}:∀(fs:bh) (os:bx) (k:aC),(∀j,fs[j]? =flags[k+j]?)->(∀j,os[j]? =ops[k+j]?)->M fs=M os->
  ∀(a:bg) (g:G),HA P ops C Q fs os a g->((idxs U fs k).foldr (λi K=>E9 P ops D C (λi=>flags.getD i X) i K) Q) a g
 | [],[],_,_,_,_,_,_,h=>h
 | f::fs,o::os,k,hf,ho,hl,a,g,h=>by
  have ho0:ops[k]? =ah o:=aQQ
  have hf0:flags.getD k X=f:=aPh
  have ih:=aFK (Q:=Q) (flags:=flags) fs os (k+1) (λj=>aQH) (λj=>aQI) A8
  cases f with
  |false=>simp only [idxs,HA,Hy,GL] at h|-;exact ih a g h
  |true=>
   simp only [idxs,HA,Bu] at h|-;simp only [nI];unfold E9;simp only [ho0,hf0,Bu];split
   ·rename_i hw;simp only [hw,Bu] at h;exact aGA (λa' g' hk=>ih a' g' hk) h
   ·rename_i hw;simp only [hw] at h;exact ih _ _ h
 | [],_::_,_,_,_,hl,_,_,_=>A8
 |_::_,[],_,_,_,hl,_,_,_=>A8
def adw {r:bp}{m:aC}{Q:aYb->bg->aO->Prop}{a:bg}{w:aO}{l:bx}(flags:bh) (g:G)
  (hB:kv l.toArray flags=U) (hD:∀g w,C g w->D w) (hkeep:∀g w w',C g w->Below w.heap.size w w'->C g w') (hC:C g {w with drawn:=w.drawn+1})
  (h:IH P l.toArray D (λa1=>HA P l.toArray C (λa' g'=>∀w',C g' w'->Q .normal a' w') flags l a1 g) flags l a):wpAnyIn (Dy r) m P .any l.toArray Q l.toArray.size (Array.replicate l.toArray.size X) a {w with drawn:=w.drawn+1}:=by
 simp only [kv,AY,Cl] at hB;obtain ⟨⟨⟨h1,h2⟩,h3⟩,h4⟩:=hB;refine ql (D:=D) (C:=C) (sp:=λi=>flags.getD i X) hD hkeep (Q:=λa' g'=>∀w',C g' w'->Q .normal a' w') (λ_ _ w' hw' h=>h w' hw') r m _ _ _ g _ hC ?_
 have h5:=aEo (P:=P) (D:=D) (C:=C) (Q:=λa' g'=>∀w',C g' w'->Q .normal a' w') h1 _ _ a g h4
 rw [h3] at h5;refine h5 ?_;rw [List.foldr_append];refine aFA flags l 0 AJ AJ A8 a g ?_;refine (?_:∀(fs:bh) (os:bx) (a:bg),IH P l.toArray D (λa1=>HA P l.toArray C (λa' g'=>∀w',C g' w'->Q .normal a' w') flags l a1 g) fs os a->IH P l.toArray D (λa=>(List.foldr (λi K=>E9 P l.toArray D C (λi=>flags.getD i X) i K) (λa' g'=>∀w',C g' w'->Q .normal a' w')<|idxs U flags 0) a g) fs os a) flags l a h
 intro fs
 induction fs with
 |nil=>intro os a hh;cases os<;>exact aFK flags l 0 AJ AJ A8 _ _ hh
 | cons f fs ih=>
  intro os a hh;cases os with
  |nil=>exact aFK flags l 0 AJ AJ A8 _ _ hh
  | cons o os=>
   simp only [IH] at hh|-;split
   ·grind
   ·rename_i hf
    simp only [hf,Hy,GL] at hh;split
    ·rename_i hw;simp only [hw,Bu] at hh;exact rK (λa' hk=>ih _ _ hk) hh
    ·grind
def aqJ {D:aO->Prop}{K:bg->Prop}{a:bg}(h:K a):IH P ops D K [] [] a:=by simpa [IH] using h
def aqI {C:G->aO->Prop}{Q:bg->G->Prop}{a:bg}{g:G}(h:Q a g):HA P ops C Q [] [] a g:=by simpa [HA] using h
def pU (md:aYa) (ops:aK):aH->aZ->Bool
 | [],_=>U
 |i::is,listed=>((ay md ops listed).contains i&&Region.free md ops listed i)&&pU md ops is (listed.setIfInBounds i U)
def Qy:aH->aZ->Array Bool
 | [],l=>l
 |i::is,l=>Qy is<|l.setIfInBounds i U
def adQ {flags:bh}{Q:bg->G->Prop}(hs:Region.noSelect ops=U) (m:aC):∀(is:aH) (listed:aZ) (a:bg) (g:G),(∀i∈is,flags.getD i X=X)->
  pU md ops is listed=U->(is.foldr (λi K=>E9 P ops D C (λi=>flags.getD i X) i K) λa g=>Ki P md ops D C (λi=>flags.getD i X) Q m (Qy is listed) a g) a g->Ki P md ops D C (λi=>flags.getD i X) Q (M is+m) listed a g
 | [],_,_,_,_,_,h=>by rw [C3,F8];exact h
 |i::is,listed,a,g,hf,hB,h=>by
  simp only [pU,AY] at hB;obtain ⟨⟨hr,hfr⟩,h2⟩:=hB;simp only [nI,Qy] at h
  have hfi:=hf i AJ
  have hr':i∈ay md ops listed:=A8
  obtain ⟨_,oi,hoi,_⟩:=Jp.1 hr';obtain ⟨v,hy,hK⟩:=ad2 hoi hfi h
  have:=adO hoi hfi (Region.noSelect_spec hs) (M is+m) listed a g (Region.free_spec hoi hfr) hr' hy<|adQ hs m is _ _ _ (λj hj=>hf j A8) h2 hK
  grind
def qt (b:aM):∀(fs:bh) (k i:aC),i∈idxs b fs k->k<=i/\fs[i-k]? =ah b
 | [],_,_,h=>by simp [idxs] at h
 | f::fs,k,i,h=>by
  simp only [idxs] at h;split at h
  ·rename_i hf
   rcases B6.1 h with rfl|h
   ·grind
   ·exact aOp
  ·exact aOp
def Tm (ops:aK) (flags:bh):aM:=
 Region.noSelect ops&&M flags==ops.size&&M (idxs X flags 0)+M (idxs U flags 0)==ops.size&&pU .any ops (idxs X flags 0) (Array.replicate ops.size X)
def adN {r:bp}{m:aC}{Q:aYb->bg->aO->Prop}{a:bg}{w:aO}{l:bx}(flags:bh) (g:G)
  (hB:Tm l.toArray flags=U) (hD:∀g w,C g w->D w) (hkeep:∀g w w',C g w->Below w.heap.size w w'->C g w') (hC:C g {w with drawn:=w.drawn+1})
  (h:IH P l.toArray D (λa1=>Ki P .any l.toArray D C (λi=>flags.getD i X) (λa' g'=>∀w',C g' w'->Q .normal a' w') (M<|idxs U flags 0) (Qy (idxs X flags 0)<|Array.replicate l.toArray.size X) a1 g) flags l a):wpAnyIn (Dy r) m P .any l.toArray Q l.toArray.size (Array.replicate l.toArray.size X) a {w with drawn:=w.drawn+1}:=by
 simp only [Tm,AY,Cl] at hB;obtain ⟨⟨⟨h1,h2⟩,h3⟩,h4⟩:=hB;refine ql (D:=D) (C:=C) (sp:=λi=>flags.getD i X) hD hkeep (Q:=λa' g'=>∀w',C g' w'->Q .normal a' w') (λ_ _ w' hw' h=>h w' hw') r m _ _ _ g _ hC ?_
 have h5:=adQ (P:=P) (D:=D) (C:=C) (flags:=flags) (Q:=λa' g'=>∀w',C g' w'->Q .normal a' w') h1 (M<|idxs U flags 0) (idxs X flags 0) _ a g (λi hi=>by
  obtain ⟨_,h⟩:=qt X flags 0 i hi;simp only [Nat.sub_zero] at h
  simp [List.getD,h]) h4
 rw [h3] at h5;refine h5 ?_;exact aFA flags l 0 AJ AJ A8 a g h
def kz (md:aYa) (ops:aK):aC->aH->List Nat
 |0,l=>l
 |k+1,l=>l++kz md ops k (l.flatMap λi=>match ops[i]? with
  |some o=>(o.after.toList.filter<|Region.binds md).map (·.on)
  |none=>[])
def Closed (md:aYa) (ops:aK) (listed:aZ):Prop:=
 ∀(i:aC) (o:aU),ops[i]? =ah o->listed.getD i X=U->∀e∈o.after,Region.binds md e=U->listed.getD e.on X=U
def Closed.back {listed:aZ}(hc:Closed md ops listed):∀(k:aC) (l:aH),(∀i∈l,listed.getD i X=U)->∀i∈kz md ops k l,listed.getD i X=U
 |0,_,h=>h
 | k+1,l,h=>λi hi=>by
  simp only [kz,Bf] at hi;rcases hi with hi|hi
  ·exact h i hi
  ·refine Closed.back hc k _ (λj hj=>?_) i hi
   obtain ⟨i',h1,h2⟩:=List.mem_flatMap.1 hj;split at h2
   ·rename_i o ho
    obtain ⟨e,h3,rfl⟩:=FP.1 h2;obtain ⟨h4,h5⟩:=Ck.1 h3;exact hc i' o ho (h i' h1) e A8 h5
   ·cases h2
def Closed.put {listed:aZ}(hc:Closed md ops listed) {i:aC}(hi:i∈ay md ops listed):Closed md ops (listed.setIfInBounds i U):=λj o hj hl e he hb=>by
 by_cases hij:i=j
 ·subst hij
  obtain ⟨_,o',ho',h2⟩:=Jp.1 hi;obtain rfl:o'=o:=Ej<|ho'.symm.trans hj;exact getD_set_true<|h2 e he hb
 ·rw [Zy X hij] at hl
  exact getD_set_true<|hc j o hj hl e he hb
def uG {l:aZ}{i:aC}(h:i<l.size):l.getD i U=l.getD i false:=oo
def sf {listed:aZ}{i:aC}(h:i∈ay md ops listed):i<ops.size:=by
 obtain ⟨_,o,ho,_⟩:=Jp.1 h
 grind
end
structure De (tr:aH) (w w':aO):Prop where
 os:w'.os=w.os
 tape:w'.tape=w.tape
 output:w'.output=w.output
 size:w.heap.size<=w'.heap.size
 block:∀k,k<w.heap.size->k∉tr->w'.heap[k]? =w.heap[k]?
def aeV {tr:aH}{w w1 w2:aO}(h:De tr w w1) (hb:Below w1.heap.size w1 w2):De tr w w2:=
 ⟨hb.os.trans h.os,hb.tape.trans h.tape,hb.output.trans h.output,I2 h.size hb.size,λk hk hn=>(hb.block k<|bH hk h.size).trans<|h.block k hk hn⟩
def De.refl (tr:aH) (w:aO):De tr w w:=⟨rfl,rfl,rfl,Au _,λ_ _ _=>rfl⟩
end Go.Proofs.YtpdndmobphnjcaaGreatDoor
namespace Go.Sx
open Go.Proofs.YtpdndmobphnjcaaGreatDoor
open Go Go.RowKit
inductive Ty where
 |int (k:IntKind)
 |bool
 |str
 |sl (e:Ty)
 |pair (a b:Ty)
abbrev A7:Ty:=.int .i64
abbrev Ty.D:Ty->Type
 | .int _=>Int
 | .bool=>Bool
 | .str=>ByteArray
 | .sl e=>List e.D
 | .pair a b=>a.D×b.D
def Ty.n:Ty->Nat
 | .pair a b=>a.n+b.n
 |_=>1
def Ty.dflt:(t:Ty)->t.D
 | .int _=>(0:Y)
 | .bool=>X
 | .str=>ByteArray.empty
 | .sl _=>[]
 | .pair a b=>(a.dflt,b.dflt)
abbrev gx {e:Ty}(l:List e.D) (n:Y):e.D:=l.getD n.toNat e.dflt
def RD (Z:aC->Prop) (w:aO):(t:Ty)->t.D->aC->aC->Prop
 | .int k,n,b,o=>w.cell? ⟨b,o,aj⟩=ah (ag k n)
 | .bool,x,b,o=>w.cell? ⟨b,o,aj⟩=ah (.bool x)
 | .str,s,b,o=>w.cell? ⟨b,o,aj⟩=ah (.string s)
 | .sl e,l,b,o=>∃a cap,w.cell? ⟨b,o,aj⟩=ah (.slice a (M l) cap)/\M l<=cap/\(0<M l->∃b' o',a=ah ⟨b',o',aj⟩/\Z b'/\∀(i:aC) (d:e.D),l[i]? =ah d->RD Z w e d b' (o'+i*e.n))
 | .pair x y,d,b,o=>RD Z w x d.1 b o/\RD Z w y d.2 b (o+x.n)
def Qc {w w':aO}{b o:aC}(h:w'.heap[b]? =w.heap[b]?):w'.cell? ⟨b,o,aj⟩=w.cell? ⟨b,o,aj⟩:=World.cell?_of_block (w:=w) (w':=w') h
def RD.keep {Z Z':aC->Prop}{w w':aO}(hZ:∀b,Z b->Z' b) (hw:∀b,Z b->w'.heap[b]? =w.heap[b]?):
  ∀(t:Ty) (d:t.D) (b o:aC),w'.heap[b]? =w.heap[b]? ->RD Z w t d b o->RD Z' w' t d b o
 | .int _,_,b,o,hb,h=>aAA
 | .bool,_,b,o,hb,h=>aAA
 | .str,_,b,o,hb,h=>aAA
 | .sl e,l,b,o,hb,h=>by
  obtain ⟨a,cap,h1,h2,h3⟩:=h;refine ⟨a,cap,by rw [Qc hb];exact h1,h2,λhn=>?_⟩
  obtain ⟨b',o',h4,h5,h6⟩:=h3 hn;exact ⟨b',o',h4,hZ _ h5,λi d hd=>RD.keep hZ hw e d b' _ (hw b' h5)<|h6 i d hd⟩
 | .pair x y,d,b,o,hb,h=>by
  exact ⟨RD.keep hZ hw x d.1 b o hb h.1,RD.keep hZ hw y d.2 b _ hb h.2⟩
def RD.mono {Z Z':aC->Prop}{w w':aO}(hZ:∀b,Z b->Z' b) (hw:∀b,Z b->w'.heap[b]? =w.heap[b]?) (t:Ty) (d:t.D) (b o:aC) (hz:Z b) (h:RD Z w t d b o):RD Z' w' t d b o:=RD.keep hZ hw t d b o (hw b hz) h
structure Loc where
 (b o:aC)
 cap:bp
def aXS:qT (Loc):=⟨⟩
instance:Inhabited Loc:=⟨⟨0,0,aj⟩⟩
inductive LV where
 |v (x:Value)
 |bl (b:Bool)
 |ki (k:IntKind) (n:Int)
 |own (k off:Nat)
 |agg (l:List LV)
 |AQ (l:List LV)
 |fn (f:FuncId) (cap:List LV)
 |fb (f:FuncId) (fs:List LV)
 |xq (n:Nat) (f:Nat->LV)
 |xl (e:Ty) (l:List e.D)
 |os (k es off n:Nat)
 |op (k es i j:Nat)
 |om (k:Nat)
 |mp (kd:IntKind) (ks:List Int) (vs:List LV)
 |oc (k es off n c:Nat)
 |CU (k:Nat)
 |junk
def aD:qT (List LV):=⟨⟩
def bq:qT (List<|Nat×LV):=⟨⟩
def aYc:qT (Option LV):=⟨⟩
def aYf:qT (List<|List LV):=⟨⟩
mutual
def R (β:aC->aXS) (Z:aC->Prop) (w:aO):LV->aV->Prop
 | .v x,y=>y=x
 | .bl b,y=>y=.bool b
 | .ki k n,y=>y=ag k n
 | .own k off,y=>y=.pointer (ah ⟨(β k).b,off,aj⟩)
 | .agg l,y=>∃ys,y=.agg ys/\RL β Z w l ys.toList
 | .AQ l,y=>∃ys,y=.tuple ys/\RL β Z w l ys.toList
 | .fn f cap,y=>∃ys,y=.func (.func f) #[] ys/\RL β Z w cap ys.toList
 | .fb f cap,y=>∃ys,y=.func (.func f) ys #[]/\RL β Z w cap ys.toList
 | .xq n f,y=>∃b off,y=.pointer (ah ⟨b,off,aj⟩)/\Z b/\∀j,j<n->∃z,w.cell? ⟨b,off+j,aj⟩=ah z/\R β Z w (f j) z
 | .xl e l,y=>∃a cap,y=.slice a (M l) cap/\M l<=cap/\(0<M l->∃b off,a=ah ⟨b,off,aj⟩/\Z b/\∀(i:aC) (d:e.D),l[i]? =ah d->RD Z w e d b (off+i*e.n))
 | .os k es off n,y=>match (β k).cap with
  |none=>n=0/\off=0/\y=.slice aj 0 0
  |some c=>off+n<=c/\∃a,y=.slice (ah a) n (c-off)/\(0<c-off->a=⟨(β k).b,(β k).o+off*es,aj⟩)
 | .op k es i j,y=>(β k).cap≠aj/\y=.pointer (ah ⟨(β k).b,(β k).o+i*es+j,aj⟩)
 | .om k,y=>y=.map (ah (β k).b)
 | .mp kd ks vs,y=>∃r es clock,y=.map (ah r)/\Z r/\w.heap[r]? =ah (.map es clock)/\es.toList.map (·.key)=ks.map (.int kd)/\RL β Z w vs (es.toList.map (·.val))
 | .oc k es off n c,y=>off+n<=c/\∃a,y=.slice (ah a) n (c-off)/\(0<c-off->a=⟨(β k).b,off*es,aj⟩)
 | .CU k,y=>y=.func (.yield (β k).b) #[] #[]
 | .junk,_=>True
def RL (β:aC->aXS) (Z:aC->Prop) (w:aO):aD->aT->Prop
 | [],ys=>ys=[]
 |x::xs,ys=>∃y zs,ys=y::zs/\R β Z w x y/\RL β Z w xs zs
end
/-Which own blocks a value names:all below n. -/
mutual
def okV (n:aC):LV->Prop
 | .v _=>True
 | .bl _=>True
 | .ki _ _=>True
 | .own k _=>k<n
 | .agg l=>AU n l
 | .AQ l=>AU n l
 | .fn _ cap=>AU n cap
 | .fb _ cap=>AU n cap
 | .xq _ f=>∀j,okV 0 (f j)
 | .xl _ _=>True
 | .os k _ _ _=>k<n
 | .op k _ _ _=>k<n
 | .om k=>k<n
 | .mp _ _ vs=>AU n vs
 | .oc k _ _ _ _=>k<n
 | .CU k=>k<n
 | .junk=>True
def AU (n:aC):aD->Prop
 | []=>True
 |x::xs=>okV n x/\AU n xs
end
mutual
def okV.mono {n m:aC}(h:n<=m):∀(x:LV),okV n x->okV m x
 | .v _,_=>trivial
 | .bl _,_=>trivial
 | .ki _ _,_=>trivial
 | .own k _,hk=>VR
 | .agg l,hk=>oE
 | .AQ l,hk=>oE
 | .fn _ l,hk=>oE
 | .fb _ l,hk=>oE
 | .xq _ f,hk=>by simp only [okV] at*;exact hk
 | .xl _ _,_=>trivial
 | .os k _ _ _,hk=>VR
 | .op k _ _ _,hk=>VR
 | .om k,hk=>VR
 | .mp _ _ vs,hk=>by simp only [okV] at*;exact AU.mono h vs hk
 | .oc k _ _ _ _,hk=>VR
 | .CU k,hk=>VR
 | .junk,_=>trivial
def AU.mono {n m:aC}(h:n<=m):∀(x:aD),AU n x->AU m x
 | [],_=>trivial
 |x::xs,hk=>by simp only [AU] at*;exact ⟨okV.mono h x hk.1,AU.mono h xs hk.2⟩
end
mutual
def R.mono {β β':aC->aXS}{Z Z':aC->Prop}{w w':aO}{n:aC}(hβ:∀k,k<n->β' k=β k) (hZ:∀b,Z b->Z' b) (hw:∀b,Z b->w'.heap[b]? =w.heap[b]?):
  ∀(x:LV) (y:aV),okV n x->R β Z w x y->R β' Z' w' x y
 | .v _,_,_,h=>h
 | .bl _,_,_,h=>h
 | .ki _ _,_,_,h=>h
 | .own k off,y,hk,h=>by simp only [R,okV] at*;rw [h,hβ k hk]
 | .agg l,y,hk,h=>by
  exact nW
 | .AQ l,y,hk,h=>by
  exact nW
 | .fn f l,y,hk,h=>by
  exact nW
 | .fb f l,y,hk,h=>by
  exact nW
 | .xq n f,y,hk,h=>by
  simp only [R,okV] at*;obtain ⟨b,off,h1,hz,h2⟩:=h;refine ⟨b,off,h1,hZ b hz,λj hj=>?_⟩
  obtain ⟨z,h3,h4⟩:=h2 j hj;exact ⟨z,by rw [Qc (hw b hz)];exact h3,R.mono hβ hZ hw (f j) z (okV.mono (N9 _) _ (hk j)) h4⟩
 | .xl e l,y,hk,h=>by
  simp only [R] at*;obtain ⟨a,cap,h1,h2,h3⟩:=h;refine ⟨a,cap,h1,h2,λhn=>?_⟩
  obtain ⟨b,off,h4,h5,h6⟩:=h3 hn;exact ⟨b,off,h4,hZ b h5,λi d hd=>RD.mono hZ hw e d b _ h5 (h6 i d hd)⟩
 | .os k es off n,y,hk,h=>cU
 | .op k es i j,y,hk,h=>cU
 | .om k,y,hk,h=>cU
 | .mp kd ks vs,y,hk,h=>by
  simp only [R,okV] at*;obtain ⟨r,es,clock,h1,h2,h3,h4,h5⟩:=h;exact ⟨r,es,clock,h1,hZ r h2,by rw [hw r h2];exact h3,h4,RL.mono hβ hZ hw vs _ hk h5⟩
 | .oc k es off n c,y,hk,h=>cU
 | .CU k,y,hk,h=>cU
 | .junk,_,_,_=>KM
def RL.mono {β β':aC->aXS}{Z Z':aC->Prop}{w w':aO}{n:aC}(hβ:∀k,k<n->β' k=β k) (hZ:∀b,Z b->Z' b) (hw:∀b,Z b->w'.heap[b]? =w.heap[b]?):
  ∀(x:aD) (y:aT),AU n x->RL β Z w x y->RL β' Z' w' x y
 | [],_,_,h=>aQR
 |x::xs,ys,hk,h=>by
  simp only [RL,AU] at*;obtain ⟨y,zs,h1,h2,h3⟩:=h;exact ⟨y,zs,h1,R.mono hβ hZ hw x y hk.1 h2,RL.mono hβ hZ hw xs zs hk.2 h3⟩
end
def Bx:(t:Ty)->t.D->List LV
 | .int k,n=>[.v<|ag k n]
 | .bool,b=>[.v<|.bool b]
 | .str,s=>[.v<|.string s]
 | .sl e,l=>[.xl e l]
 | .pair a b,d=>Bx a d.1++Bx b d.2
def KO:∀(t:Ty) (d:t.D),M (Bx t d)=t.n
 | .int _,_=>rfl
 | .bool,_=>rfl
 | .str,_=>rfl
 | .sl _,_=>rfl
 | .pair a b,d=>by simp only [Bx,BG,Ty.n,KO a d.1,KO b d.2]
def Na (n:aC):∀(t:Ty) (d:t.D),AU n (Bx t d)
 | .int _,_=>⟨ak,ak⟩
 | .bool,_=>⟨ak,ak⟩
 | .str,_=>⟨ak,ak⟩
 | .sl _,_=>⟨ak,ak⟩
 | .pair a b,d=>by
  have app:∀(l1 l2:aD),AU n l1->AU n l2->AU n (l1++l2):=by
   intro l1
   induction l1 with
   |nil=>intro l2 _ h;exact h
   |cons x xs ih=>intro l2 h1 h2;exact ⟨h1.1,ih l2 h1.2 h2⟩
  simp only [Bx];exact app _ _ (Na n a d.1)<|Na n b d.2
def To {β:aC->aXS}{Z:aC->Prop}{w:aO}:∀(t:Ty) (d:t.D) (b o:aC),RD Z w t d b o->∀(j:aC) (x:LV),(Bx t d)[j]? =ah x->∃z,w.cell? ⟨b,o+j,aj⟩=ah z/\R β Z w x z
 | .int k,n,b,o,h,j,x,hx=>by
  exact zo
 | .bool,n,b,o,h,j,x,hx=>by
  exact zo
 | .str,n,b,o,h,j,x,hx=>by
  exact zo
 | .sl e,l,b,o,h,j,x,hx=>by
  simp only [Bx] at hx;cases j with
  |zero=>
   simp at hx;subst hx
   simp only [RD] at h;obtain ⟨a,cap,h1,h2,h3⟩:=h;exact ⟨_,h1,by simp only [R];exact ⟨a,cap,rfl,h2,h3⟩⟩
  |succ j=>simp at hx
 | .pair p q,d,b,o,h,j,x,hx=>by
  simp only [Bx] at hx;simp only [RD] at h
  by_cases hj:j<p.n
  ·rw [I1 (by rw [KO];exact hj)] at hx
   exact To p d.1 b o h.1 j x hx
  ·rw [Gp aAd,KO] at hx
   obtain ⟨z,h1,h2⟩:=To q d.2 b (o+p.n) h.2 (j-p.n) x hx;exact ⟨z,by rw [show o+j=o+p.n+(j-p.n) by omega];exact h1,h2⟩
def RL.length {β:aC->aXS}{Z:aC->Prop}{w:aO}:∀ {l:aD}{ys:aT},RL β Z w l ys->M ys=M l
 | [],ys,h=>by simp only [RL] at h;simp [h]
 |x::xs,ys,h=>by
  simp only [RL] at h;obtain ⟨y,zs,rfl,_,h3⟩:=h
  simp [RL.length h3]
def RL.get {β:aC->aXS}{Z:aC->Prop}{w:aO}:∀ {l:aD}{ys:aT}(i:aC) (x:LV),RL β Z w l ys->l[i]? =ah x->∃y,ys[i]? =ah y/\R β Z w x y
 | [],ys,i,x,_,hx=>by simp at hx
 |x0::xs,ys,i,x,h,hx=>by
  simp only [RL] at h;obtain ⟨y,zs,rfl,h2,h3⟩:=h;cases i with
  |zero=>simp at hx;subst hx;exact ⟨y,AJ,h2⟩
  |succ i=>simp at hx;obtain ⟨y',h4,h5⟩:=RL.get i x h3 hx;exact ⟨y',by simpa using h4,h5⟩
def AU.get {n:aC}:∀ {l:aD}(i:aC) (x:LV),AU n l->l[i]? =ah x->okV n x
 | [],i,x,_,hx=>by simp at hx
 |x0::xs,i,x,h,hx=>by
  simp only [AU] at h;cases i with
  |zero=>simp at hx;subst hx;exact h.1
  |succ i=>simp at hx;exact AU.get i x h.2 hx
def RL.Cm {β:aC->aXS}{Z:aC->Prop}{w:aO}:∀ {l:aD}{ys:aT},M ys=M l->(∀(i:aC) (x:LV),l[i]? =ah x->∃y,ys[i]? =ah y/\R β Z w x y)->RL β Z w l ys
 | [],ys,hl,_=>by simp only [RL];exact MH.1 hl
 |x::xs,[],hl,_=>cj
 |x::xs,y::ys,hl,h=>by
  simp only [RL];refine ⟨y,ys,rfl,?_,RL.Cm oa λi x' hx=>?_⟩
  ·obtain ⟨y',h1,h2⟩:=h 0 x AJ;simp at h1;subst h1;exact h2
  ·obtain ⟨y',h1,h2⟩:=h (i+1) x' aAn;exact ⟨y',by simpa using h1,h2⟩
def AU.Cm {n:aC}:∀ {l:aD},(∀(i:aC) (x:LV),l[i]? =ah x->okV n x)->AU n l
 | [],_=>trivial
 |x::xs,h=>by simp only [AU];exact ⟨h 0 x AJ,AU.Cm λi x' hx=>h (i+1) x' aAn⟩
inductive T (α:Type) where
 |ok (x:α)
 |br (b:Bool) (t e:T α)
 |req (p:Prop) (t:T α)
 |no
def T.rv {β:Type}(x:LV) (t:T β):T β:=.req (x=x) t
def T.rl {α β:Type}(l:List α) (t:T β):T β:=.req (0=0/\M l=M l) t
def T.bind {α β:Type}(k:α->T β):T α->T β
 | .ok x=>k x
 | .br b t e=> .br b (t.bind k) (e.bind k)
 | .req p t=> .req p (t.bind k)
 | .no=> .no
def T.all {α:Type}(K:α->Prop):T α->Prop
 | .ok x=>K x
 | .br b t e=>(b=U->t.all K)/\(b=X->e.all K)
 | .req p t=>p/\t.all K
 | .no=>False
def T.all_bind {α β:Type}{k:α->T β}{K:β->Prop}:∀ {t:T α},(t.bind k).all K↔t.all (λx=>(k x).all K)
 | .ok _=>Iff.rfl
 | .br b t e=>by simp only [T.bind,T.all];rw [T.all_bind,T.all_bind]
 | .req p t=>by simp only [T.bind,T.all];rw [T.all_bind]
 | .no=>Iff.rfl
def T.BQ {α:Type}{K K':α->Prop}(h:∀x,K x->K' x):∀ {t:T α},t.all K->t.all K'
 | .ok _,hh=>h _ hh
 | .br b t e,hh=>⟨λhb=>T.BQ h<|hh.1 hb,λhb=>T.BQ h<|hh.2 hb⟩
 | .req p t,hh=>⟨hh.1,T.BQ h hh.2⟩
 | .no,hh=>hh
def Li {α:Type}(P:aR):Sem α->Option α
 | .pure a=>ah a
 | .program k=>Li P (k P)
 | .mark _ k=>Li P k
 |_=>aj
def qZ {α:Type}{P:aR}(w:aO):∀ {s:Sem α}{a:α},Li P s=ah a->s.run P w=.ok a w
 | .pure _,_,h=>by simp only [Li,Aj] at h;subst h;rfl
 | .program k,_,h=>by simp only [Li] at h;exact qZ w (s:=k P) h
 | .mark _ k,_,h=>by simp only [Li] at h;exact qZ w (s:=k) h
 | .load ..,_,h| .store ..,_,h| .new ..,_,h| .shape ..,_,h| .freeze ..,_,h| .frozen ..,_,h| .getObj ..,_,h| .setObj ..,_,h| .choose ..,_,h| .sys ..,_,h| .halt ..,_,h=>by simp [Li] at h
inductive Ex where
 |normal
 |exit (n:Nat)
 |ret
def aYh:qT (List Ex):=⟨⟩
inductive LS where
 |ready
 |busy
 |done (x:Ex)
inductive BK where
 |cl
 |vec (e:Ty) (l:List e.D)
 |mp (kd:IntKind) (ks:List Int) (vs:List LV)
 |Cq (ps:Array Tmp) (asg body:Code) (st:LS)
 |st (e:Ty) (l:List e.D)
 |dead
structure AB where
 c:aD
 t:aS
 k:BK
 p:aM
def aG:qT (List AB):=⟨⟩
def aX1:qT (Option AB):=⟨⟩
def AB.E5 (b:AB):aM:=
 match b.k with
 | .cl=>U
 |_=>X
abbrev BA:=Nat->Option (Nat×(Nat->aV))
abbrev Specs:=FuncId->Option (List LV->T LV)
def aXQ:qT (Specs):=⟨⟩
def pl:LV->Option Value
 | .v x=>ah x
 | .bl b=>ah (.bool b)
 | .ki k n=>ah (ag k n)
 | .fn f []=>ah (.func (.func f) #[] #[])
 |_=>aj
def B3:aD->Option (List Value)
 | []=>ah []
 |x::xs=>match pl x,B3 xs with
  |some y,ah ys=>ah (y::ys)
  |_,_=>aj
def norm:LV->LV
 | .bl b=> .v (.bool b)
 | .ki k n=> .v (ag k n)
 |x=>x
def K4 (l:aD):LV:=match B3 l with|some ys=> .v (.agg ys.toArray) |none=> .agg<|l.map norm
def RJ (l:aD):LV:=match B3 l with|some ys=> .v (.tuple ys.toArray) |none=> .AQ<|l.map norm
def K6:aV->Bool
 | .agg _=>X
 | .tuple _=>X
 |_=>U
def X1:LV->Bool
 | .v x=>K6 x
 | .agg _=>X
 | .AQ _=>X
 | .junk=>X
 |_=>U
def CT:LV->Option (List LV)
 | .v x=>if x.cells.toList.all K6 then ah (x.cells.toList.map .v) else aj
 | .agg l=>if l.all X1 then ah l else aj
 | .AQ _=>aj
 | .junk=>aj
 |x=>ah [x]
def HQ (P:aR) (t:aS):bp:=(P.info? t).map (·.size)
def Ik (P:aR) (t:aS):aXW:=(P.info? t).bind (·.zero)
def Sf (P:aR) (t:aS):Option Bool:=(P.underlying t).map fun| .struct _=>U| .array _ _=>U|_=>X
def AM (G:BA) (F:aD):aXT->LV
 | .tmp t=>F.getD t .junk
 | .const x=>match x with| .bool b=> .bl b| ag k n=> .ki k n|y=> .v y
 | .global g=>match G g with|some (n,f)=> .xq n (λj=> .v<|f j) |none=> .junk
 | .func f=> .fn f []
def setAt (l:aD) (off:aC) (cs:aD):aD:=l.take off++cs++l.drop (off+M cs)
def ya (k:aXU):LV->Option Int
 | .v (.int k' n)=>if k'=k then ah n else aj
 | .ki k' n=>if k'=k then ah n else aj
 |_=>aj
def yb:LV->Option Bool
 | .v (.bool b)=>ah b
 | .bl b=>ah b
 |_=>aj
def yZ:LV->Option ByteArray
 | .v (.string s)=>ah s
 |_=>aj
def K7:(a b:Ty)->Option (PLift<|a=b)
 | .int k,.int k'=>if h:k=k' then ah ⟨Ve⟩ else aj
 | .bool,.bool=>ah ⟨rfl⟩
 | .str,.str=>ah ⟨rfl⟩
 | .sl x,.sl y=>match K7 x y with
  |some ⟨h⟩=>ah ⟨Ve⟩
  |none=>aj
 | .pair x y,.pair x' y'=>match K7 x x',K7 y y' with
  |some ⟨h⟩,ah ⟨h'⟩=>ah ⟨by rw [h,h']⟩
  |_,_=>aj
 |_,_=>aj
def Kq {a b:Ty}(h:a=b) (l:List a.D):List b.D:=h▸l
def N3 (e:Ty):LV->Option (List e.D)
 | .xl e' l=>match K7 e' e with
  |some ⟨h⟩=>ah (Kq h l)
  |none=>aj
 | .v (.slice aj 0 0)=>ah []
 |_=>aj
def hd1 {α:Type}(f:LV->Option α):aD->Option α
 | [x]=>f x
 |_=>aj
def KB:(t:Ty)->aD->Option t.D
 | .int k,l=>hd1 (ya k) l
 | .bool,l=>hd1 yb l
 | .str,l=>hd1 yZ l
 | .sl e,l=>hd1 (N3 e) l
 | .pair a b,l=>match KB a (l.take a.n),KB b (l.drop a.n) with
  |some x,ah y=>ah (x,y)
  |_,_=>aj
def FX (P:aR) (H:aG) (t:aS) (x:LV):T LV:=
 match Sf P t,HQ P t with
 | some U,ah n=>
  match x with
  | .own k off=>match H[k]? with
   |some b=>if b.E5=U/\off+n<=M b.c then .ok (K4<|(b.c.drop off).take n) else .no
   |none=> .no
  | .xq m f=>if n<=m then .ok (K4<|(au n).map f) else .no
  | .op k es i j=>match H[k]? with
   |some ⟨_,_,.vec e l,_⟩=>if e.n=es/\j+n<=es then .req (i<M l) (.ok<|K4<|((Bx e<|l.getD i e.dflt).drop j).take n) else .no
   |_=> .no
  |_=> .no
 | some X,_=>
  match x with
  | .own k off=>match H[k]? with
   |some b=>if b.E5=U then (match b.c[off]? with
    |some y=> .ok y
    |none=> .no) else .no
   |none=> .no
  | .xq m f=>if 0<m then .ok (f 0) else .no
  | .op k es i j=>match H[k]? with
   |some ⟨_,_,.vec e l,_⟩=>if e.n=es then .req (i<M l) (match (Bx e<|l.getD i e.dflt)[j]? with
    |some y=> .ok y
    |none=> .no) else .no
   |_=> .no
  |_=> .no
 |_,_=> .no
def Th (P:aR) (H:aG) (t:aS) (x y:LV):T (List AB):=
 match HQ P t,CT y with
 | some n,ah cs=>match x with
  | .own k off=>match H[k]? with
   |some b=>if b.E5=U/\b.p=X/\M cs=n/\off+n<=M b.c then .ok (H.set k ⟨setAt b.c off cs,b.t,b.k,b.p⟩) else .no
   |none=> .no
  | .op k es i j=>match H[k]? with
   |some ⟨_,bt,.vec e l,X⟩=>if e.n=es/\M cs=n/\j+n<=es then .req (i<M l) (match KB e (setAt (Bx e<|l.getD i e.dflt) j cs) with
    |some d=> .ok (H.set k ⟨[],bt,.vec e<|l.set i d,X⟩)
    |none=> .no) else .no
   |_=> .no
  |_=> .no
 |_,_=> .no
def Wz (P:aR) (s:aS) (x:LV) (i:aC):T LV:=
 match P.underlying s with
 | some (.struct fs)=>match fs[i]? with
  | some f=>match HQ P f.type with
   |some (m+1)=>match x with
    | .own k off=> .ok (.own k<|off+f.offset)
    | .op k es i j=> .ok (.op k es i<|j+f.offset)
    | .xq n g=>if f.offset+(m+1)<=n then .ok (.xq (n-f.offset) λj=>g<|f.offset+j) else .no
    |_=> .no
   |_=> .no
  |none=> .no
 |_=> .no
def yS (P:aR) (t:aS) (l:aD) (i:aC):T LV:=
 match P.underlying t with
 | some (.struct fs)=>match fs[i]? with
  | some f=>match Sf P f.type,HQ P f.type with
   |some U,ah n=>if f.offset+n<=M l then .ok (K4<|(l.drop f.offset).take n) else .no
   |some X,_=>match l[f.offset]? with
    |some y=> .ok y
    |none=> .no
   |_,_=> .no
  |none=> .no
 |_=> .no
def yq:LV->Option (List LV)
 | .agg l=>ah l
 | .v (.agg ys)=>ah (ys.toList.map .v)
 |_=>aj
def yO (P:aR) (t:aS) (l:aD) (i:LV):T LV:=
 match P.underlying t,i with
 |some (.array len e),.ki _ j=>match Sf P e,HQ P e,l[j.toNat]? with
  |some X,ah 1,ah y=>if 0<=j/\j<(len:Y) then .ok y else .no
  |_,_,_=> .no
 |_,_=> .no
def chain (n:Y) (g:aC->LV):aC->aC->T LV
 |0,_=> .no
 |m+1,j=> .br (n==(j:Y)) (.ok<|g j)<|chain n g m<|j+1
def SQ:LV->Bool
 | .ki _ _=>U
 |_=>X
def addN:aC->aC->Nat
 |0,n=>n
 |m+1,n=>m+1+n
def axL:∀(m n:aC),addN m n=m+n
 |0,n=>by simp [addN]
 |m+1,n=>rfl
def R3 (P:aR) (t:aS) (x:LV) (c:aM) (i:LV):T LV:=
 match pl i with
 | some (.int _ n)=>match P.underlying t with
  | some (.array len e)=>match HQ P e with
   |some (m+1)=>match x with
    | .op k es i j=>if c then (if 0<=n/\n<len then .ok (.op k es i<|j+n.toNat*(m+1)) else .no) else chain n (λq=> .op k es i<|j+q*(m+1)) len 0
    | .own k off=>if c then (if 0<=n/\n<len then .ok (.own k<|off+n.toNat*(m+1)) else .no) else chain n (λj=> .own k<|off+j*(m+1)) len 0
    | .xq q g=>if len*(m+1)<=q then (if c then (if 0<=n/\n<len then .ok (.xq (m+1) λj=>g<|n.toNat*(m+1)+j) else .no) else if len=3 then chain n (λi=> .xq (m+1) λj=>g<|i*(m+1)+j) len 0 else .req (0<=n/\n<(len:Y)) (.ok<|.xq (m+1) λj=>g<|n.toNat*(m+1)+j)) else .no
    |_=> .no
   |_=> .no
  |some (.slice e)=>match HQ P e,x with
   |some (m+1),.xl e' l=>if e'.n=m+1 then .req (0<=n/\n<(M l:Y)) (.ok<|.xq (m+1) λj=>(Bx e'<|gx l n).getD j .junk) else .no
   |some (m+1),.os k es off len=>if es=m+1 then .req (0<=n/\n<(len:Y)) (.ok<|.op k es (addN off n.toNat) 0) else .no
   |some (m+1),.oc k es off len cp=>if es=m+1 then (if c then (if 0<=n/\n<(len:Y) then .ok (.own k<|(off+n.toNat)*(m+1)) else .no) else chain n (λj=> .own k<|(off+j)*(m+1)) len 0) else .no
   |_,_=> .no
  |_=> .no
 |_=> .no
def Kn (place:aC->aX9) (cells:aD):bq->Option (List LV)
 | []=>ah cells
 |(i,x)::rest=>match place i,CT x with
  |some (off,size),ah cs=>if M cs=size/\off+size<=M cells then Kn place (setAt cells off cs) rest else aj
  |_,_=>aj
def aRs (P:aR) (t:aS):Option (Nat->Option (Nat×Nat)):=
 match P.underlying t with
 |some (.struct fields)=>(fields.toList.mapM λf=>(P.info? f.type).map λi=>(f.offset,i.size)).map λps=>λi=>ps.toArray[i]?
 |some (.array _ e)=>(P.info? e).map λie=>λi=>ah (i*ie.size,ie.size)
 |_=>aj
def Nk (P:aR) (t:aS) (parts:bq):T LV:=
 match Ik P t,aRs P t with
 |some z,ah pf=>match Kn pf (z.cells.toList.map .v) parts with
  |some cs=> .ok (if parts.any (λq=>SQ q.2) then .agg cs else K4 cs)
  |none=> .no
 |_,_=> .no
def IC (G:BA) (F:aD):aXT->LV
 | .const x=>norm (AM G F<|.const x)
 |o=>AM G F o
def C8 (H:aG):aC->LV->LV
 |0,_=> .junk
 |d+1,.own k off=>match H[k]? with
  |some b=>if b.E5 then .xq (M b.c-off) (λj=>C8 H d<|b.c.getD (off+j) .junk) else .junk
  |none=> .junk
 |_+1,.os k es off n=>match H[k]? with
  |some ⟨_,_,.vec e l,_⟩=>if e.n=es then .xl e ((l.drop off).take n) else .junk
  |_=> .junk
 |_+1,.op k es i j=>match H[k]? with
  |some ⟨_,_,.vec e l,_⟩=>if e.n=es then .xq (es-j) (λq=>(Bx e<|l.getD i e.dflt).getD (j+q) .junk) else .junk
  |_=> .junk
 |d+1,.om k=>match H[k]? with
  |some ⟨_,_,.mp kd ks vs,_⟩=> .mp kd ks (vs.map<|C8 H d)
  |_=> .junk
 |_+1,.v x=> .v x
 |_+1,.bl x=> .v (.bool x)
 |_+1,.ki k n=> .v (ag k n)
 |d+1,.agg l=> .agg (l.map<|C8 H d)
 |d+1,.AQ l=> .AQ (l.map<|C8 H d)
 |d+1,.fn f l=> .fn f (l.map<|C8 H d)
 |d+1,.fb f l=> .fb f (l.map<|C8 H d)
 |_+1,.xq n f=> .xq n f
 |_+1,.xl e l=> .xl e l
 |d+1,.mp kd ks vs=> .mp kd ks (vs.map<|C8 H d)
 |_+1,.oc ..=> .junk
 |_+1,.CU _=> .junk
 |_+1,.junk=> .junk
def GU {α:Type}(g:α->T Unit):List α->T Unit
 | []=> .ok ()
 |x::xs=>(g x).bind λ_=>GU g xs
def EX (H:aG):aC->LV->T Unit
 |0,_=> .ok ()
 |d+1,.own k _=>match H[k]? with
  |some b=>GU (EX H d) b.c
  |none=> .ok ()
 |_+1,.os k _ off n=>match H[k]? with
  |some ⟨_,_,.vec _ l,_⟩=> .req (off+n<=M l) (.ok ())
  |_=> .ok ()
 |_+1,.op k _ i _=>match H[k]? with
  |some ⟨_,_,.vec _ l,_⟩=> .req (i<M l) (.ok ())
  |_=> .ok ()
 |d+1,.om k=>match H[k]? with
  |some ⟨_,_,.mp _ _ vs,_⟩=>GU (EX H d) vs
  |_=> .ok ()
 |d+1,.agg l=>GU (EX H d) l
 |d+1,.AQ l=>GU (EX H d) l
 |d+1,.fn _ l=>GU (EX H d) l
 |d+1,.fb _ l=>GU (EX H d) l
 |d+1,.mp _ _ l=>GU (EX H d) l
 |_+1,_=> .ok ()
mutual
def noOwn:LV->Bool
 | .own _ _=>X
 | .os ..=>X
 | .op ..=>X
 | .om _=>X
 | .oc ..=>X
 | .CU _=>X
 | .agg l=>noOwnL l
 | .AQ l=>noOwnL l
 | .fn _ l=>noOwnL l
 | .fb _ l=>noOwnL l
 | .mp _ _ l=>noOwnL l
 |_=>U
def noOwnL:aD->Bool
 | []=>U
 |x::xs=>noOwn x&&noOwnL xs
end
/-Which own blocks a value names. -/
mutual
def owns:LV->List Nat
 | .own k _=>[k]
 | .os k _ _ _=>[k]
 | .op k _ _ _=>[k]
 | .om k=>[k]
 | .oc k _ _ _ _=>[k]
 | .CU k=>[k]
 | .agg l=>ownsL l
 | .AQ l=>ownsL l
 | .fn _ l=>ownsL l
 | .fb _ l=>ownsL l
 | .mp _ _ l=>ownsL l
 |_=>[]
def ownsL:aD->List Nat
 | []=>[]
 |x::xs=>owns x++ownsL xs
end
def AB.owns (b:AB):aH:=ownsL b.c++(match b.k with| .mp _ _ vs=>ownsL vs|_=>[])
def reach (H:aG):aC->aH->aH->List Nat
 |0,_,acc=>acc
 |_+1,[],acc=>acc
 |d+1,k::ks,acc=>if acc.contains k then reach H d ks acc else reach H d (ks++(match H[k]? with|some b=>b.owns|none=>[])) (acc++[k])
def Kb (H:aG) (ks:aH) (l:aD):aM:=
 (ownsL l).all ks.contains&&ks.all (λk=>match H[k]? with|some b=>b.owns.all ks.contains|none=>X)
def Fw (ks:aH):aC->aG->List AB
 |_,[]=>[]
 |k,b::bs=>(if ks.contains k then ⟨b.c,b.t,b.k,U⟩ else b)::Fw ks (k+1) bs
def SP (x:LV):aM:=(pl x).isSome
def R1:T LV->T LV
 | .ok x=>if SP x then .ok x else .no
 | .br b t e=> .br b (R1 t) (R1 e)
 | .req p t=> .req p (R1 t)
 | .no=> .no
def kY (c a b:LV):T LV:=
 match c with
 | .bl U=> .ok a
 | .bl X=> .ok b
 | .v (.bool g)=>match norm a,norm b with
  | .v (ag k n),.v (.int k' m)=>if k=k' then .ok (.v<|ag k (if g then n else m)) else .no
  | .v (.bool p),.v (.bool q)=> .ok (.v<|.bool (if g then p else q))
  |_,_=> .br g (.ok a) (.ok b)
 |_=> .no
def Vv:bh->Bool
 | []=>U
 | [p]=>p
 |p::ps=>p&&Vv ps
mutual
def eqV (P:aR):aC->aS->aV->aV->Option Bool
 |0,_,_,_=>aj
 |d+1,t,x,y=>match P.underlying t,x,y with
  |some (.int _),ag k a,.int k' b=>if k=k' then ah (a==b) else aj
  |some .bool,.bool a,.bool b=>ah (a==b)
  |some .string,.string a,.string b=>ah (a==b)
  |some (.struct fs),.agg xs,.agg ys=>if P.stoodInHeld t then aj else (eqFs P d xs ys fs.toList).map Vv
  |_,_,_=>aj
def eqFs (P:aR):aC->aX->aX->aYg->Option (List Bool)
 |_,_,_,[]=>ah []
 |0,_,_,_::_=>aj
 | d+1,xs,ys,f::fs=>if f.name= "_" then aj else match Li P (part f.type xs f.offset),Li P (part f.type ys f.offset) with
  |some a,ah b=>match eqV P d f.type a b,eqFs P d xs ys fs with
   |some p,ah ps=>ah (p::ps)
   |_,_=>aj
  |_,_=>aj
end
def aUl:BinOp->Option Bool
 | .eql=>ah X
 | .neq=>ah U
 |_=>aj
def R8 (P:aR) (o:Op) (e:aXT->aV):Option (Option Value):=
 match o with
 | .binOp op t x y _=>match aUl op with
  | some neg=>match e x,e y with
   | .agg xs,.agg ys=>ah (match Li P (eqGuard op t x y (.agg xs)<|.agg ys),eqV P 100 t (.agg xs) (.agg ys) with
    |some _,ah b=>ah (.bool (match neg with|true=>!b|false=>b))
    |_,_=>aj)
   |_,_=>aj
  |none=>aj
 |_=>aj
def OW (P:aR) (o:aU) (e:aXT->aV):aXW:=
 match R8 P o.op e with
 |some r=>r
 |none=>match Li P (execOp e o) with
  |some (.value y)=>ah y
  |_=>aj
def dB:LV->Bool
 | .ki _ _=>U
 | .bl _=>U
 | .v (.slice aj _ _)=>U
 |_=>X
def kn:aV->LV
 | ag k n=> .ki k n
 | .bool b=> .bl b
 |y=> .v y
def Dd (P:aR) (G:BA) (F:aD) (o:aU):T LV:=
 if o.op.operands.toList.all (λx=>SP<|AM G F x) then
  match OW P o (λx=>(pl<|AM G F x).getD undef) with
  |some y=> .ok (if o.op.operands.toList.all (λx=>dB<|AM G F x) then kn y else .v y)
  |none=> .no
 else .no
def Vq (r:aS->Option Ty):bu->Option Ty
 | []=>aj
 | [t]=>r t
 |t::ts=>match r t,Vq r ts with
  |some a,ah b=>ah (.pair a b)
  |_,_=>aj
def Ir (P:aR):aC->aS->Option Ty
 |0,_=>aj
 |m+1,t=>match P.underlying t with
  |some (.int k)=>ah (.int k)
  |some .bool=>ah .bool
  |some .string=>ah .str
  |some (.struct fs)=>Vq (Ir P m) (fs.toList.map (·.type))
  |some (.array n e)=>Vq (Ir P m) (aq n e)
  |some (.slice e)=>(Ir P m e).map .sl
  |_=>aj
def dC (e:Ty):aC->aD->Option (List e.D)
 |0,_=>ah []
 |n+1,cs=>match KB e (cs.take e.n),dC e n (cs.drop e.n) with
  |some d,ah r=>ah (d::r)
  |_,_=>aj
def L8 (P:aR) (t:aS) (len:aC) (parts:bq):T LV:=
 match P.underlying t with
 |some (.slice e)=>match Ir P 8 e,HQ P e,Ik P e with
  | some ty,ah m,ah z=>if ty.n=m/\z.cells.size=m/\0<len*m/\len*m<=2^24 then
    (match Kn (λi=>ah (i*m,m)) ((au<|len*m).map λi=> .v<|z.cells[i%z.cells.size]!) parts with
    |some cs=>match dC ty len cs with
     |some l=> .ok (.xl ty l)
     |none=> .no
    |none=> .no) else .no
  |_,_,_=> .no
 |_=> .no
def Wm (P:aR) (t:aS):aM:=
 match P.underlying t with
 |some (.slice e)=>(Ir P 8 e).isSome
 |_=>X
def pX (P:aR) (H:aG) (t:aS) (len:aC) (parts:bq):T (LV×List AB):=
 match P.underlying t with
 |some (.slice e)=>match HQ P e,Ik P e with
  | some m,ah z=>if z.cells.size=m/\0<len*m/\len*m<=2^24 then
    (match Kn (λi=>ah (i*m,m)) ((au<|len*m).map λi=> .v<|z.cells[i%z.cells.size]!) parts with
    |some cs=> .ok (.oc (M H) m 0 len len,H++[⟨cs,e,.cl,X⟩])
    |none=> .no) else .no
  |_,_=> .no
 |_=> .no
def pW (P:aR) (H:aG) (t:aS) (len:aC) (parts:bq):T (LV×List AB):=
 if Kb H (reach H 64 (ownsL<|parts.map (·.2)) []) (parts.map (·.2)) then
  ((GU (EX H 6)<|parts.map (·.2)).bind λ_=>L8 P t len<|parts.map λq=>(q.1,C8 H 6 q.2)).bind λy=> .ok (y,Fw (reach H 64 (ownsL<|parts.map (·.2)) []) 0 H)
 else .no
def FW (H:aG) (e:Ty):LV->T (List e.D)
 | .os k es off n=>match H[k]? with
  |some ⟨_,_,.vec e' l,_⟩=>if e'.n=es then (match K7 e' e with
   |some ⟨h⟩=> .req (off+n<=M l) (.ok<|Kq h<|(l.drop off).take n)
   |none=> .no) else .no
  |_=> .no
 |x=>match N3 e x with
  |some l=> .ok l
  |none=> .no
def aV5 (P:aR) (t:aS):bp:=(P.info? t).map (·.bytes)
def Pk (P:aR) (t:aS):Option (TypeId×Ty×Nat×Nat):=
 match P.underlying t with
 |some (.slice e)=>match Ir P 8 e,HQ P e,aV5 P e with
  |some ty,ah m,ah FM=>if ty.n=m/\0<m then ah (e,ty,m,FM) else aj
  |_,_,_=>aj
 |_=>aj
def dA (P:aR) (H:aG) (t:aS) (len:aC) (parts:bq):T (LV×List AB):=
 if Kb H (reach H 64 (ownsL<|parts.map (·.2)) []) (parts.map (·.2)) then
  ((GU (EX H 6)<|parts.map (·.2)).bind λ_=>L8 P t len<|parts.map λq=>(q.1,C8 H 6 q.2)).bind λy=>match P.underlying t,y with
   |some (.slice e),.xl ty l=> .ok (.os (M H) ty.n 0 len,Fw (reach H 64 (ownsL<|parts.map (·.2)) []) 0 H++[⟨[],e,.vec ty l,X⟩])
   |_,_=> .no
 else .no
def aSG (Γ:aXQ) (t:aS):aM:=(Γ<|1000000+t).isSome
def UA (P:aR) (H:aG) (t:aS) (n c:LV):T (LV×List AB):=
 match Pk P t,pl n,pl c with
 | some (e,ty,m,FM),ah (ag J n),ah (ag J c)=>match Ik P e with
  |some z=>match KB ty (z.cells.toList.map .v) with
   |some d=>if z.cells.size=m then .req (0<=n/\n<=c/\FM*c<=2^48/\c<2^63) (.ok (.os (M H) m 0 n.toNat,H++[⟨[],e,.vec ty<|aq n.toNat d,X⟩])) else .no
   |none=> .no
  |none=> .no
 |_,_,_=> .no
def Tp (P:aR) (H:aG) (t:aS):T (LV×List AB):=
 match Pk P t with
 |some (e,ty,m,_)=> .ok (.os (M H) m 0 0,H++[⟨[],e,.vec ty [],X⟩])
 |none=> .no
def Lm (P:aR) (H:aG) (t tx:aS) (x y:LV):T (LV×List AB):=
 match Pk P t with
 | some (e,ty,m,FM)=>match P.underlying tx,Ik P e with
  | some (.slice _),ah z=>if z.cells.size=m then (FW H ty y).bind (λq=>match x with
    | .v (.slice aj 0 0)=> .req ((M q:Y)*FM<=2^47/\(M q:Y)<2^62) (.ok (.os (M H) m 0<|M q,H++[⟨[],e,.vec ty q,X⟩]))
    | .os k es off n=>match H[k]? with
     |some ⟨_,bt,.vec e' l,X⟩=>match K7 e' ty with
      | some ⟨h⟩=>if es=m/\bt=e then .req (off+n=M l/\((n+M q:aC):Y)*FM<=2^47/\((n+M q:aC):Y)<2^62)
        (.ok (.os (M H) m 0<|n+M q,H.set k ⟨[],e,.dead,X⟩++[⟨[],e,.vec ty<|Kq h (l.drop off)++q,X⟩])) else .no
      |none=> .no
     |_=> .no
    |_=> .no) else .no
  |_,_=> .no
 |none=> .no
def BF {α:Type}(q l:List α):List α:=q++l.drop (M q)
def Xy (P:aR) (H:aG) (t tx:aS) (x y:LV):T (LV×List AB):=
 match Pk P t,P.underlying tx with
 | some (_,ty,m,_),ah (.slice _)=>match x with
  | .os k es 0 n=>match H[k]? with
   |some ⟨c,bt,.vec e' l,X⟩=>match K7 e' ty with
    |some ⟨h⟩=>if es=m then (FW H ty y).bind λq=> .req (n=M l/\M q<=n) (.ok (.v<|ag J (M q:Y),H.set k ⟨c,bt,.vec ty<|BF q<|Kq h l,X⟩)) else .no
    |none=> .no
   |_=> .no
  |_=> .no
 |_,_=> .no
def vC (P:aR) (t:aS) (x:LV) (lo hi:aYc):T LV:=
 match P.underlying t with
 | some (.slice e)=>match HQ P e with
  | some (m+1)=>
   let b (o:aYc) (d:Y):Option Int:=match o with
    |none=>ah d
    |some y=>match pl y with
     |some (.int _ n)=>ah n
     |_=>aj
   match x with
   | .xl ty l=>match b lo 0,b hi (M l:Y) with
    |some i,ah j=>if ty.n=m+1 then .req (0<=i/\i<=j/\j<=(M l:Y)) (.ok<|.xl ty<|(l.drop i.toNat).take<|j.toNat-i.toNat) else .no
    |_,_=> .no
   | .os k es off n=>match b lo 0,b hi (n:Y) with
    |some i,ah j=>if es=m+1 then .req (0<=i/\i<=j/\j<=(n:Y)) (.ok<|.os k es (off+i.toNat)<|j.toNat-i.toNat) else .no
    |_,_=> .no
   |_=> .no
  |_=> .no
 |_=> .no
def th (P:aR) (t:aS) (x:LV) (lo:aYc) (hi mx:LV):T LV:=
 match P.underlying t with
 | some (.slice e)=>match HQ P e with
  | some (m+1)=>match x with
   | .xl ty l=>match (match lo with|none=>ah 0|some y=>match pl y with|some (.int _ n)=>ah n|_=>none:Option Int),pl hi,pl mx with
    |some i,ah (.int _ j),ah (.int _ q)=>if ty.n=m+1 then .req (0<=i/\i<=j/\j<=(M l:Y)/\q=j) (.ok<|.xl ty<|(l.drop i.toNat).take<|j.toNat-i.toNat) else .no
    |_,_,_=> .no
   |_=> .no
  |_=> .no
 |_=> .no
def eZ (kd:aXU) (n:Y) (z:aV):aB->aD->T LV
 |k::ks,v::vs=> .br (n==k) (.ok v) (eZ kd n z ks vs)
 |_,_=> .ok<|.v z
def yL:(e:Ty)->e.D->Value
 | .int k,n=> ag k n
 | .str,s=> .string s
 | .bool,b=> .bool b
 | .sl _,_=>undef
 | .pair _ _,_=>undef
def N1:(e:Ty)->aV->Option e.D
 | .int k,v=>match v with
  | .int k' n=>if k'=k then ah n else aj
  |_=>aj
 | .str,v=>match v with
  | .string s=>ah s
  |_=>aj
 |_,_=>aj
def pS:(e:Ty)->e.D->List e.D->Bool
 | .int _,x,l=>List.contains (α:=Int) l x
 | .str,x,l=>List.contains (α:=ByteArray) l x
 |_,_,_=>X
def cq (P:aR) (t:aS):Option Ty:=
 match P.underlying t with
 |some (.map kt et)=>match P.underlying et,P.underlying kt,Ik P et with
  |some .bool,ah (.int k),ah (.bool X)=>ah (.int k)
  |some .bool,ah .string,ah (.bool X)=>ah .str
  |_,_,_=>aj
 |_=>aj
def aaO (P:aR) (t:aS) (e:Ty) (l:List e.D) (i:LV):T LV:=
 match cq P t,pl i with
 |some e',ah v=>match K7 e' e,N1 e v with
  |some _,ah d=> .ok (.v<|.bool<|pS e d l)
  |_,_=> .no
 |_,_=> .no
def UB (P:aR) (H:aG) (t:aS) (x i:LV):T LV:=
 match P.underlying t with
 | some (.map kt et)=>match P.underlying kt,Ik P et,pl i with
  | some (.int kd),ah z,ah (.int kd' n)=>if kd'=kd/\K6 z=U then (match x with
   | .mp kd2 ks vs=>if kd2=kd/\M ks=M vs then eZ kd n z ks vs else .no
   | .om k=>match H[k]? with
    |some ⟨_,_,.mp kd2 ks vs,_⟩=>if kd2=kd/\M ks=M vs then eZ kd n z ks vs else .no
    |_=> .no
   |_=> .no) else .no
  |_,_,_=> .no
 |_=> .no
def eG (kd:aXU) (n:Y) (z:aV):aB->aD->T LV
 |k::ks,v::vs=> .br (n==k) (.ok<|.AQ [norm v,.bl U]) (eG kd n z ks vs)
 |_,_=> .ok<|.AQ [.v z,.bl X]
def Xd (P:aR) (H:aG) (t:aS) (x i:LV):T LV:=
 match P.underlying t with
 | some (.map kt et)=>match P.underlying kt,Ik P et,pl i with
  | some (.int kd),ah z,ah (.int kd' n)=>if kd'=kd/\K6 z=U then (match x with
   | .mp kd2 ks vs=>if kd2=kd/\M ks=M vs then eG kd n z ks vs else .no
   | .om k=>match H[k]? with
    |some ⟨_,_,.mp kd2 ks vs,_⟩=>if kd2=kd/\M ks=M vs then eG kd n z ks vs else .no
    |_=> .no
   |_=> .no) else .no
  |_,_,_=> .no
 |_=> .no
def Y2 (P:aR) (H:aG) (t:aS) (x i:LV):T LV:=
 match x with
 | .om k=>match H[k]? with
  |some ⟨_,_,.st e l,_⟩=>aaO P t e l i
  |_=>UB P H t x i
 |_=>UB P H t x i
def Vm (P:aR) (H:aG) (t:aS) (x i y:LV):T (List AB):=
 match P.underlying t with
 | some (.map kt _)=>match P.underlying kt,pl i,x with
  |some (.int kd),ah (.int kd' n),.om k=>match H[k]? with
   |some ⟨_,bt,.mp kd2 ks vs,X⟩=>if kd'=kd/\kd2=kd/\M ks=M vs/\ks.contains n=X then .ok (H.set k ⟨[],bt,.mp kd (ks++[n])<|vs++[y],X⟩) else .no
   |_=> .no
  |_,_,_=> .no
 |_=> .no
def insL (P:aR) (H:aG) (t:aS) (x i y:LV):T (List AB):=
 match x with
 | .om k=>match H[k]? with
  | some ⟨_,bt,.st e l,X⟩=>match cq P t,pl i,y with
   |some e',ah v,.bl U=>match K7 e' e,N1 e v with
    |some _,ah d=> .req (pS e d l=X) (.ok<|H.set k ⟨[],bt,.st e<|l++[d],X⟩)
    |_,_=> .no
   |_,_,_=> .no
  |_=>Vm P H t x i y
 |_=>Vm P H t x i y
def kindOf (P:aR) (t:aS):Option IntKind:=
 match P.underlying t with
 |some (.map kt _)=>match P.underlying kt with
  |some (.int kd)=>ah kd
  |_=>aj
 |_=>aj
def Lj (P:aR):aC->aS->Bool
 |0,_=>X
 |m+1,t=>match P.underlying t with
  |some (.int _) |some .bool|some .string=>U
  |some (.struct fs)=>fs.toList.all (λf=>Lj P m f.type)
  |some (.array _ e)=>Lj P m e
  |some (.tuple ts)=>ts.toList.all (Lj P m)
  |_=>X
def Ja (s:bz) (n:Y):Y:=(((s[n.toNat]?).getD 0).toNat:Y)
def Nw (P:aR) (Γ:aXQ) (H:aG) (o:aU) (g:bn) (l:aD):T (LV×List AB):=
 match P.funcs[g]? with
 | some fn=>if fn.body.isSome&&!(fn.name== "runtime.NumGoroutine") then
   match Γ g with
   |some S=>
    if noOwnL l then (S l).bind λy=> .ok (y,H)
    else if Lj P 8 o.type then ((GU (EX H 6) l).bind λ_=>R1<|S<|l.map<|C8 H 6).bind λy=> .ok (y,H)
    else if Kb H (reach H 64 (ownsL l) []) l then ((GU (EX H 6) l).bind λ_=>S<|l.map<|C8 H 6).bind λy=> .ok (y,Fw (reach H 64 (ownsL l) []) 0 H) else .no
   |none=> .no
  else .no
 |none=> .no
def Ay (P:aR) (G:BA) (Γ:aXQ) (F:aD) (H:aG) (o:aU):T (LV×List AB):=
 match o.op with
 | .select _ _=> .no
 | .move x=> .ok (AM G F x,H)
 | .assign x=> .ok (AM G F x,H)
 | .pick c a b=>(kY (AM G F c) (AM G F a)<|AM G F b).bind λy=> .ok (y,H)
 | .alloc t=>match Ik P t with
  |some z=>match CT (.v z) with
   |some cs=> .ok (.own (M H) 0,H++[⟨cs,t,.cl,X⟩])
   |none=> .no
  |none=> .no
 | .box t x=>match CT (AM G F x) with
  |some cs=> .ok (.own (M H) 0,H++[⟨cs,t,.cl,X⟩])
  |none=> .no
 | .load t x=>(FX P H t<|AM G F x).bind λy=> .ok (y,H)
 | .store t x y=>(Th P H t (AM G F x)<|AM G F y).bind λH'=> .ok (.v undef,H')
 | .fieldAddr s x i=>(Wz P s (AM G F x) i).bind λy=> .ok (y,H)
 | .indexAddr t x i=>(R3 P t (AM G F x) (SQ<|AM G F i)<|AM G F i).bind λy=> .ok (y,H)
 | .build t parts=>(Nk P t<|parts.toList.map λq=>(q.1,IC G F q.2)).bind λy=> .ok (y,H)
 | .buildSlice t len parts=>if len=0 then (if parts.toList.isEmpty then Tp P H t else .no) else if Wm P t then (if aSG Γ t then dA P H t len (parts.toList.map λq=>(q.1,AM G F q.2)) else if noOwnL ((parts.toList.map λq=>(q.1,AM G F q.2)).map (·.2)) then (L8 P t len<|parts.toList.map λq=>(q.1,AM G F q.2)).bind λy=> .ok (y,H) else pW P H t len (parts.toList.map λq=>(q.1,AM G F q.2))) else pX P H t len (parts.toList.map λq=>(q.1,AM G F q.2))
 | .makeSlice t n c=>UA P H t (AM G F n) (AM G F c)
 | .slice t x lo hi aj=>match AM G F x with
  | .v _=>(Dd P G F o).bind λy=> .ok (y,H)
  |_=>(vC P t (AM G F x) (lo.map<|AM G F)<|hi.map<|AM G F).bind λy=> .ok (y,H)
 | .slice t x lo (ah hi) (ah mx)=>match AM G F x with
  | .v _=>(Dd P G F o).bind λy=> .ok (y,H)
  |_=>(th P t (AM G F x) (lo.map<|AM G F) (AM G F hi)<|AM G F mx).bind λy=> .ok (y,H)
 | .makeMap t aj=>match cq P t with
  |some e=> .ok (.om<|M H,H++[⟨[],t,.st e [],X⟩])
  |none=>match kindOf P t with
   |some kd=> .ok (.om<|M H,H++[⟨[],t,.mp kd [] [],X⟩])
   |none=> .no
 | .insert t m i x=>(insL P H t (AM G F m) (AM G F i)<|AM G F x).bind λH'=> .ok (.v undef,H')
 | .mapUpdate t m i x=>(insL P H t (AM G F m) (AM G F i)<|AM G F x).bind λH'=> .ok (.v undef,H')
 | .lookup t x i X=>(Y2 P H t (AM G F x)<|AM G F i).bind λy=> .ok (y,H)
 | .lookup t x i U=>match AM G F x with
  | .v _=>(Dd P G F o).bind λy=> .ok (y,H)
  |_=>(Xd P H t (AM G F x)<|AM G F i).bind λy=> .ok (y,H)
 | .extract x i=>match AM G F x with
  | .AQ l=>match l[i]? with
   |some y=> .ok (y,H)
   |none=> .no
  |_=>(Dd P G F o).bind λy=> .ok (y,H)
 | .field t x i=>match AM G F x with
  | .agg l=>(yS P t l i).bind λy=> .ok (y,H)
  |_=>(Dd P G F o).bind λy=> .ok (y,H)
 | .makeFunc (.func f) first cap=>if first.toList.isEmpty then .ok (.fn f<|cap.toList.map<|AM G F,H) else if cap.toList.isEmpty then .ok (.fb f<|first.toList.map<|AM G F,H) else .no
 | .nilCheck x=>match AM G F x with
  | .own k off=> .ok (.own k off,H)
  | .op k es i j=> .ok (.op k es i j,H)
  | .xq n f=> .ok (.xq n f,H)
  | .fn f l=> .ok (.fn f l,H)
  | .fb f l=> .ok (.fb f l,H)
  |_=>(Dd P G F o).bind λy=> .ok (y,H)
 | .binOp .quo t x y _=>match pl (AM G F x),pl (AM G F y) with
  |some (ag k n),ah (.int k' m)=>if k=k' then .req (m≠0) (.ok (.v<|ag k<|k.wrap<|n.tdiv m,H)) else .no
  |_,_=> .no
 | .binOp .rem t x y _=>match pl (AM G F x),pl (AM G F y) with
  |some (ag k n),ah (.int k' m)=>if k=k' then .req (m≠0) (.ok (.v<|ag k<|n.tmod m,H)) else .no
  |_,_=> .no
 | .binOp .shl t x y _=>if SQ (AM G F y) then (Dd P G F o).bind λy=> .ok (y,H) else match pl (AM G F x),pl (AM G F y) with
  |some (ag k n),ah (.int _ m)=> .req (0<=m) (.ok (.v<|ag k<|k.wrap<|n*2^(min m.toNat k.bits),H))
  |_,_=> .no
 | .binOp .shr t x y _=>if SQ (AM G F y) then (Dd P G F o).bind λy=> .ok (y,H) else match pl (AM G F x),pl (AM G F y) with
  |some (ag k n),ah (.int _ m)=> .req (0<=m) (.ok (.v<|ag k<|n.fdiv<|2^(min m.toNat k.bits),H))
  |_,_=> .no
 | .index t x i=>match yq (AM G F x) with
  |some l=>(yO P t l<|AM G F i).bind λy=> .ok (y,H)
  |none=>match P.underlying t,pl<|AM G F x,pl (AM G F i) with
   |some .string,ah (.string s),ah (.int _ n)=> .req (0<=n/\n<(s.size:Y)) (.ok (.v<|ag aw<|Ja s n,H))
   |_,_,_=> .no
 | .call {callee:=.value f,args,..}=>match AM G F f with
  | .fn g cap=>Nw P Γ H o g (args.toList.map (λx=>norm<|AM G F x)++cap)
  | .fb g fs=>Nw P Γ H o g (fs++args.toList.map (λx=>norm<|AM G F x))
  |_=> .no
 | .call {callee:=.invoke ..,..}=> .no
 | .call {callee:=.builtin .append,args,argTypes}=>match args.toList.map (AM G F),argTypes.toList with
  | [x,y],[t,tx]=>Lm P H t tx x y
  |_,_=> .no
 | .call {callee:=.builtin .copy,args,argTypes}=>match args.toList.map (AM G F),argTypes.toList with
  | [x,y],[t,tx]=>Xy P H t tx x y
  |_,_=> .no
 | .call {callee:=.builtin .len,args,argTypes}=>match args.toList.map (AM G F),(argTypes[0]?).bind P.underlying with
  | [.os _ _ _ n],ah (.slice _)=> .ok (.v<|ag J n,H)
  | [.xl _ l],ah (.slice _)=> .ok (.v<|ag J (M l:Y),H)
  | [.oc _ _ _ n _],ah (.slice _)=> .ok (.ki J n,H)
  |_,_=>(Dd P G F o).bind λy=> .ok (y,H)
 |_=>(Dd P G F o).bind λy=> .ok (y,H)
def Av (F:aD):bA->LV->List LV
 |some d,x=>F.set d x
 |none,_=>F
structure Hand where
 k:bn->aD->aG->T (LV×List AB)
 y:aC->aD->aG->T (LV×List AB)
def aX5:qT (Hand):=⟨⟩
def ER:aX5:=⟨λ_ _ _=> .no,λ_ _ _=> .no⟩
def aAz (G:BA) (F:aD) (o:aU):Option (Nat×List LV):=
 match o.op with
 | .call {callee:=.value f,args,..}=>match AM G F f with
  | .CU k=>ah (k,args.toList.map λx=>norm<|AM G F x)
  |_=>aj
 |_=>aj
def callOf (G:BA) (F:aD) (o:aU):Option (FuncId×List LV):=
 match o.op with
 | .call {callee:=.value f,args,..}=>match AM G F f with
  | .fn g cap=>ah (g,args.toList.map (λx=>norm<|AM G F x)++cap)
  | .fb g fs=>ah (g,fs++args.toList.map (λx=>norm<|AM G F x))
  | .v (.func (.func g) ⟨[]⟩ ⟨[]⟩)=>ah (g,args.toList.map λx=>norm<|AM G F x)
  |_=>aj
 |_=>aj
def opk (P:aR) (G:BA) (Γ:aXQ) (K:aX5) (F:aD) (H:aG) (o:aU):T (LV×List AB):=
 match callOf G F o with
 | some (g,l)=>match Γ g with
  |some _=>Ay P G Γ F H o
  |none=>match P.funcs[g]? with
   |some fn=>if fn.body.isSome&&!(fn.name== "runtime.NumGoroutine") then K.k g l H else .no
   |none=> .no
 |none=>match aAz G F o with
  |some (k,l)=>K.y k l H
  |none=>Ay P G Γ F H o
def jb (ty:Ty):aD->Option (List<|List ty.D)
 | []=>ah []
 | x::xs=>match x with
  | .xl e l=>match K7 e ty,jb ty xs with
   |some ⟨h⟩,ah r=>ah (Kq h l::r)
   |_,_=>aj
  |_=>aj
def yN (P:aR) (G:BA) (F:aD) (H:aG) (o o2:aU):Option (Int×Nat×LV):=
 if o.guard.isNone&&o2.guard.isNone then
  match o.op,o.dst,o2.op with
  | .indexAddr t x i,ah d,.load t2 (.tmp d2)=>
   if d2 =d/\d<M F/\Sf P t2=ah X then
    match P.underlying t,AM G F x,AM G F i with
    | some (.array len e),.own k off,.v (.int _ n)=>
     if HQ P e=ah 1 then
      match H[k]? with
      | some b=>
       if b.E5=U/\off+len<=M b.c then
        match (b.c.drop off).take len with
        | .xl ty l::rest=>match jb ty (.xl ty l::rest) with
         |some ls=>ah (n,len,.xl ty<|ls.getD n.toNat [])
         |none=>aj
        |_=>aj
       else aj
      |none=>aj
     else aj
    |_,_,_=>aj
   else aj
  |_,_,_=>aj
 else aj
def Is (P:aR) (G:BA) (Γ:aXQ) (K:aX5) (ops:aK):bx->aD->aG->T (List LV×List AB)
 | [],F,H=> .ok (F,H)
 | o::os,F,H=>
  let go (F:aD):T (List LV×List AB):=(opk P G Γ K F H o).bind λq=>Is P G Γ K ops os (Av F o.dst q.1) q.2
  let pass (F:aD):T (List LV×List AB):=Is P G Γ K ops os (Av F o.dst<|.v undef) H
  match o.guard with
  | none=>match os with
   | []=>go F
   |o2::os2=>match yN P G F H o o2 with
    |some (n,len,y)=> .req (0<=n/\n<(len:Y)) (Is P G Γ K ops os2 (Av (Av F o.dst .junk) o2.dst y) H)
    |none=>go F
  | some (j,want)=>match (ops[j]?).bind (·.dst) with
   |some d=>match F.getD d .junk with
    | .bl b=>if b=want then go F else pass F
    | .v (.bool g)=>if want then .br g (go<|F.set d<|.bl U) (pass<|F.set d<|.bl X) else .br g (pass<|F.set d<|.bl U) (go<|F.set d<|.bl X)
    | .v (.tuple _)=>pass F
    |_=> .no
   |none=> .no
def nki:LV->LV
 | .ki k n=> .v (ag k n)
 |x=>x
def TY (b:aM):LV->LV->LV
 | .v (ag k n),.v (.int k' m)=>if k=k' then .v (ag k (if b then n else m)) else .junk
 | .bl U,.bl X=> .v (.bool b)
 | .bl X,.bl U=> .v (.bool !b)
 | .bl U,.bl U=> .bl U
 | .bl X,.bl X=> .bl X
 | .v (.bool p),.bl X=> .v (.bool<|b&&p)
 | .v (.bool p),.bl U=> .v (.bool (!b ||p))
 | .bl U,.v (.bool q)=> .v (.bool (b ||q))
 | .bl X,.v (.bool q)=> .v (.bool<|!b&&q)
 | .v (.bool p),.v (.bool q)=> .v (.bool (if b then p else q))
 |_,_=> .junk
def Xc (b:aM) (x y:LV):LV:=TY b (nki x)<|nki y
def P1 (P:aR) (o:aU):aM:=
 match o.op with
 | .alloc _| .box ..| .store ..| .makeSlice ..| .makeMap ..| .insert ..| .mapUpdate ..=>X
 | .buildSlice ..=>X
 | .call {callee:=.builtin .append,..}=>X
 | .call {callee:=.builtin .copy,..}=>X
 | .call {callee:=.value _,..}=>Lj P 8 o.type
 | .call {callee:=.invoke ..,..}=>Lj P 8 o.type
 |_=>U
def SO (P:aR) (Γ:aXQ) (o:aU):aM:=
 P1 P o&&(match o.op with
 | .call {callee:=.value (.func g),..}=>(Γ g).isSome
 | .call {callee:=.value _,..}=>X
 |_=>U)
def Fb (ops:bx):aH:=ops.filterMap (·.dst)
def Tk (ds:aH) (b:aM) (F F1 F2:aD):aD:=(au<|M F).map λi=>if ds.contains i then Xc b (F1.getD i .junk) (F2.getD i .junk) else F.getD i .junk
def fnX:LV->LV->Bool
 | .fn ..,.fn ..=>U
 | .fn ..,.v _=>U
 | .v _,.fn ..=>U
 |_,_=>X
def fnD (ds:aH) (F1 F2:aD):aM:=ds.any λd=>fnX (F1.getD d .junk)<|F2.getD d .junk
def Ke (ds:aH) (F:aD) (H:aG):T (List LV×List AB)->T (List LV×List AB)
 | .ok x=> .ok x
 | .no=> .no
 | .req p t=> .req p (Ke ds F H t)
 | .br b t e=>match Ke ds F H t,Ke ds F H e with
  | .ok x,.ok y=>if fnD ds x.1 y.1 then .br b (.ok x) (.ok y) else .ok (Tk ds b F x.1 y.1,H)
  |t',e'=> .br b t' e'
def yJ (P:aR) (G:BA) (Γ:aXQ) (K:aX5) (ops:aK) (F:aD) (H:aG):T (List LV×List AB):=
 if ops.toList.all (SO P Γ) then Ke (Fb ops.toList) F H (Is P G Γ K ops ops.toList F H) else Is P G Γ K ops ops.toList F H
def isSp (P:aR) (o:aU):aM:=
 match o.op with
 | .alloc _| .box ..| .store ..| .buildSlice ..| .makeSlice ..| .makeMap ..| .insert ..| .mapUpdate ..=>U
 | .call {callee:=.builtin .append,..}=>U
 | .call {callee:=.builtin .copy,..}=>U
 | .call {callee:=.value _,..}=>!Lj P 8 o.type
 | .call {callee:=.invoke ..,..}=>!Lj P 8 o.type
 |_=>X
def fk (sp:aU->aM):bh->bx->List Bool
 |fs,[]=>fs
 |fs,o::os=>fk sp (fs++[sp o ||o.after.toList.any (λe=>Region.binds .any e&&fs.getD e.on X)]) os
def ao1 (o:aU):aM:=
 match o.op with
 | .assign _=>U
 |_=>X
def MY (H:aG) (ops:bx) (F:aD):aC->aC->List Nat
 |0,_=>[]
 | d+1,t=>match ops.find? (λo=>o.dst==ah t&&!ao1 o) with
  | some o=>match o.op with
   | .fieldAddr _ (.tmp y) _=>MY H ops F d y
   | .indexAddr _ (.tmp y) _=>MY H ops F d y
   | .move (.tmp y)=>MY H ops F d y
   | .nilCheck (.tmp y)=>MY H ops F d y
   | .load _ (.tmp y)=>(MY H ops F d y).flatMap λk=>match H[k]? with
    |some b=>ownsL b.c
    |none=>[]
   |_=>[]
  |none=>match F.getD t .junk with
   | .own k _=>[k]
   | .op k _ _ _=>[k]
   | .os k _ _ _=>[k]
   | .om k=>[k]
   |_=>[]
def tracked (H:aG) (ops:bx) (F:aD):aH:=ops.flatMap λo=>match o.op with
 | .store _ (.tmp x) _=>MY H ops F 12 x
 | .insert _ (.tmp x) _ _=>MY H ops F 12 x
 | .mapUpdate _ (.tmp x) _ _=>MY H ops F 12 x
 | .call {callee:=.builtin .append,args,..}=>match args.toList with
  |(.tmp x)::_=>MY H ops F 12 x
  |_=>[]
 | .call {callee:=.builtin .copy,args,..}=>match args.toList with
  |(.tmp x)::_=>MY H ops F 12 x
  |_=>[]
 |_=>[]
def apJ (H:aG) (ops:bx) (F:aD) (tr:aH) (o:aU):aM:=
 match o.op with
 | .load _ (.tmp x)=>(MY H ops F 12 x).any tr.contains
 |_=>X
def Pq (b:AB):AB:=
 match b.k with
 | .cl=>⟨aq (M b.c) .junk,b.t,.cl,b.p⟩
 |_=>⟨[],b.t,.dead,X⟩
def Eo (tr:aH):aC->aG->List AB
 |_,[]=>[]
 |k,b::bs=>(if tr.contains k then Pq b else b)::Eo tr (k+1) bs
def X2 (o:aU):aM:=
 match o.op with
 | .call {callee:=.value _,..}=>U
 | .call {callee:=.invoke ..,..}=>U
 |_=>X
def uP (G:BA) (F:aD) (tr:aH) (o:aU):aM:=
 match o.op with
 | .load _ x=>match AM G F x with
  | .own k _=>!tr.contains k
  | .op k _ _ _=>!tr.contains k
  |_=>U
 | .lookup _ x _ _=>match AM G F x with
  | .om k=>!tr.contains k
  |_=>U
 |_=>U
def aNG (t:T<|LV×List AB):T LV:=t.bind λq=> .ok q.1
def Y0 (P:aR) (G:BA) (Γ:aXQ) (tr:aH) (F:aD) (Hm:aG) (o:aU):T LV:=
 if isSp P o || !uP G F tr o then .no
 else if X2 o then R1 (aNG<|Ay P G Γ F Hm o)
 else aNG (Ay P G Γ F Hm o)
def II (P:aR) (G:BA) (Γ:aXQ) (ops:aK) (tr:aH) (H Hm:aG):bh->bx->aD->T (List LV×List AB)
 | f::fs,o::os,F=>
  if f then II P G Γ ops tr H Hm fs os F else
  let go (F:aD):T (List LV×List AB):=(Y0 P G Γ tr F Hm o).bind λy=>II P G Γ ops tr H Hm fs os<|Av F o.dst y
  let pass (F:aD):T (List LV×List AB):=II P G Γ ops tr H Hm fs os<|Av F o.dst<|.v undef
  match o.guard with
  |none=>go F
  | some (j,want)=>match (ops[j]?).bind (·.dst) with
   |some d=>match F.getD d .junk with
    | .bl b=>if b=want then go F else pass F
    | .v (.bool g)=>if want then .br g (go<|F.set d<|.bl U) (pass<|F.set d<|.bl X) else .br g (pass<|F.set d<|.bl U) (go<|F.set d<|.bl X)
    | .v (.tuple _)=>pass F
    |_=> .no
   |none=> .no
 |_,_,F=> .ok (F,H)
def Ed (G:BA) (F:aD) (o:aU):aH:=
 match o.op with
 | .store _ x _=>owns (AM G F x)
 | .insert _ x _ _=>owns (AM G F x)
 | .mapUpdate _ x _ _=>owns (AM G F x)
 | .call {callee:=.builtin .append,args,..}=>match args.toList.map (AM G F) with
  |x::_=>owns x
  | []=>[]
 | .call {callee:=.builtin .copy,args,..}=>match args.toList.map (AM G F) with
  |x::_=>owns x
  | []=>[]
 |_=>[]
def C7 (G:BA) (F:aD) (tr:aH) (n0:aC) (o:aU):aM:=(Ed G F o).all λk=>tr.contains k ||an (n0<=k)
def p2x (P:aR) (G:BA) (Γ:aXQ) (ops:aK) (tr:aH) (n0:aC):bh->bx->aD->aG->T (List LV×List AB)
 | f ::fs,o::os,F,H=>
  if f then
   let go (F:aD):T (List LV×List AB):=if C7 G F tr n0 o then (Ay P G Γ F H o).bind λq=>p2x P G Γ ops tr n0 fs os (Av F o.dst q.1) q.2 else .no
   let pass (F:aD):T (List LV×List AB):=p2x P G Γ ops tr n0 fs os (Av F o.dst<|.v undef) H
   match o.guard with
   |none=>go F
   | some (j,want)=>match (ops[j]?).bind (·.dst) with
    |some d=>match F.getD d .junk with
     | .bl b=>if b=want then go F else pass F
     | .v (.bool g)=>if want then .br g (go<|F.set d<|.bl U) (pass<|F.set d<|.bl X) else .br g (pass<|F.set d<|.bl U) (go<|F.set d<|.bl X)
     | .v (.tuple _)=>pass F
     |_=> .no
    |none=> .no
  else p2x P G Γ ops tr n0 fs os F H
 |_,_,F,H=> .ok (F,H)
def HU (o:aU):aM:=
 match o.op with
 | .buildSlice ..=>U
 | .call {callee:=.value _,..}=>U
 |_=>X
def Er (o:aU):aM:=
 match o.op with
 | .alloc _=>U
 | .box ..=>U
 | .makeSlice ..=>U
 | .buildSlice _ len parts=>(len==0)&&parts.toList.isEmpty
 |_=>X
def Kx (o:aU):aM:=
 match o.op with
 | .alloc _=>U
 | .box ..=>U
 | .load ..=>U
 |_=>X
def Hp (P:aR) (G:BA) (Γ:aXQ) (F:aD) (o:aU):T LV:=
 match o.op with
 | .buildSlice t len parts=>if aSG Γ t then .no else if noOwnL ((parts.toList.map λq=>(q.1,AM G F q.2)).map (·.2)) then L8 P t len (parts.toList.map λq=>(q.1,AM G F q.2)) else .no
 | .call {callee:=.value f,args,..}=>match AM G F f with
  | .fn g cap=>match P.funcs[g]? with
   | some fn=>if fn.body.isSome&&!(fn.name== "runtime.NumGoroutine") then
     match Γ g with
     |some S=>if noOwnL (args.toList.map (λx=>norm<|AM G F x)++cap) then S (args.toList.map (λx=>norm<|AM G F x)++cap) else .no
     |none=> .no
    else .no
   |none=> .no
  |_=> .no
 |_=> .no
def aao (o:aU):aH:=(o.after.toList.filter<|Region.binds .any).map (·.on)
def yp:List (List Nat)->bx->List (List Nat)
 |acc,[]=>acc
 |acc,o::os=>yp (acc++[(aao o++(aao o).flatMap (λk=>acc.getD k [])).eraseDups]) os
def aWp (A:List<|List Nat) (n i:aC):aM:=(au n).all λj=>j==i ||(A.getD i []).contains j ||(A.getD j []).contains i
def apN (o:aU):aM:=
 match o.op with
 | .buildSlice _ len _=>len==0
 |_=>X
def FK (ops:aK) (i:aC) (o:aU):aM:=(HU o&&!apN o)&&!aWp (yp [] ops.toList) ops.size i
def GH (P:aR) (G:BA) (Γ:aXQ) (ops:aK) (i:aC) (F:aD) (H:aG) (o:aU):T (LV×List AB):=
 if FK ops i o then (Hp P G Γ F o).bind λy=> .ok (y,H) else Ay P G Γ F H o
def Fj (P:aR) (G:BA) (Γ:aXQ) (ops:aK) (tr:aH) (n0:aC):aH->aD->aG->T (List LV×List AB)
 | [],F,H=> .ok (F,H)
 |i::is,F,H=>match ops[i]? with
  |some o=>if o.guard.isNone&&C7 G F tr n0 o then (GH P G Γ ops i F H o).bind λq=>Fj P G Γ ops tr n0 is (Av F o.dst q.1) q.2 else .no
  |none=> .no
def Iq (o:aU):aM:=
 match o.op with
 | .move _=>U
 | .assign _=>U
 | .indexAddr ..=>U
 | .fieldAddr ..=>U
 | .build ..=>U
 | .extract ..=>U
 | .call {callee:=.builtin .max,..}=>U
 | .call {callee:=.builtin .min,..}=>U
 | .binOp op _ _ _ _=>(match op with
  | .add=>U
  | .sub=>U
  | .mul=>U
  |_=>X)
 |_=>X
def GZ (o:aU):aM:=
 match o.op with
 | .load ..=>U
 |_=>X
def kP (o:aU):aM:=
 match o.op with
 | .store ..=>U
 | .alloc _=>U
 | .box ..=>U
 |_=>X
def M5 (o:aU):aM:=
 match o.op with
 | .call {callee:=.builtin .append,..}=>U
 |_=>X
def RZ (ops:aK) (i j:aC):aM:=
 match ops[i]?,ops[j]? with
 |some x,ah y=>x.guard.isNone&&y.guard.isNone&&((Kx x&&FK ops j y) ||(FK ops i x&&Kx y) ||(FK ops i x&&FK ops j y) ||((Iq x ||GZ x)&&(Iq y ||GZ y)) ||(Iq x&&kP y) ||(kP x&&Iq y) ||(FK ops i x&&M5 y) ||(M5 x&&FK ops j y))&&x.apart ops y
 |_,_=>X
def G5 (i:aC):aH->List Nat
 | []=>[]
 |j::js=>if j=i then [] else j::G5 i js
def Lz (ops:aK):aC->aH->aZ->Bool
 |0,R,listed=>R.isEmpty&&(ay .any ops listed).isEmpty
 |n+1,R,listed=>!(ay .any ops listed).isEmpty&&(ay .any ops listed).all λi=>R.contains i&&(G5 i R).all (λj=>RZ ops i j)&&Lz ops n (R.erase i) (listed.setIfInBounds i U)
def preB (ops:aK) (i p:aC):aM:=
 match ops[i]? with
 |some o=>o.after.toList.any λe=>Region.binds .any e&&e.on==p
 |none=>X
def kX (ops:aK) (R:aH):aC->aC->aC->Bool
 |0,i,j=>preB ops i j
 |n+1,i,j=>preB ops i j ||R.any λp=>preB ops i p&&kX ops R n p j
def iz (ops:aK) (R0:aH):aH->Bool
 | []=>U
 |j::R=>R.all (λi=>RZ ops i j ||kX ops R0 4 i j)&&iz ops R0 R
def aXb (ops:aK) (R:aH) (listed:aZ):aM:=R.all λi=>
 match ops[i]? with
 |some o=>o.after.toList.all λe=>!Region.binds .any e ||(listed.getD e.on X ||(G5 i R).contains e.on)
 |none=>X
def pe:aH->Bool
 | []=>U
 |x::l=>!l.contains x&&pe l
def pT (ops:aK) (R:aH) (listed:aZ):aM:=
 pe R&&(listed.size==ops.size&&((au ops.size).all (λi=>R.contains i==!listed.getD i U)&&(R.all (λi=>an<|i<ops.size)&&(iz ops R R&&aXb ops R listed))))
def Wy (ops:aK) (flags:bh):aM:=letI a:=Qy (idxs X flags 0)<|Array.replicate ops.size X;letI b:=idxs U flags 0;Tm ops flags&&(pT ops b a ||Lz ops (M b) b a)
def GQ:AB:=⟨[],0,.dead,X⟩
def JZ (P:aR) (G:BA) (F:aD) (H:aG) (k:aC) (o:aU):T (LV×List AB):=
 match o.op with
 | .alloc t=>match Ik P t with
  |some z=>match CT (.v z) with
   |some cs=> .ok (.own k 0,H.set k ⟨cs,t,.cl,X⟩)
   |none=> .no
  |none=> .no
 | .box t x=>match CT (AM G F x) with
  |some cs=> .ok (.own k 0,H.set k ⟨cs,t,.cl,X⟩)
  |none=> .no
 | .makeSlice t n c=>match Pk P t,pl<|AM G F n,pl (AM G F c) with
  | some (e,ty,m,FM),ah (ag J n),ah (ag J c)=>match Ik P e with
   |some z=>match KB ty (z.cells.toList.map .v) with
    |some d=>if z.cells.size=m then .req (0<=n/\n<=c/\FM*c<=2^48/\c<2^63) (.ok (.os k m 0 n.toNat,H.set k ⟨[],e,.vec ty<|aq n.toNat d,X⟩)) else .no
    |none=> .no
   |none=> .no
  |_,_,_=> .no
 | .buildSlice t len parts=>if len=0 then (if parts.toList.isEmpty then (match Pk P t with
  |some (e,ty,m,_)=> .ok (.os k m 0 0,H.set k ⟨[],e,.vec ty [],X⟩)
  |none=> .no) else .no) else .no
 |_=> .no
def aoy (ops:aK) (t:Tmp):bp:=(au ops.size).find? λi=>match ops[i]? with
 |some o=>o.dst==ah t
 |none=>X
def apD (ops:aK) (o:aU):bp:=
 match o.op with
 | .call {callee:=.builtin .append,args,..}=>(match args.toList with
  | .tmp t::_=>aoy ops t
  |_=>aj)
 |_=>aj
def apK (d n0:aC):aD->Bool
 | [.os k _ _ _,.xl _ _]=>k==n0+d
 |_=>X
def L3 (G:BA) (ops:aK) (n0:aC) (F:aD) (H:aG) (o:aU):aM:=
 match o.op with
 | .call {callee:=.builtin .append,args,..}=>(match apD ops o with
  |some d=>an (n0+ops.size<=M H)&&apK d n0 (args.toList.map<|AM G F)
  |none=>X)
 |_=>X
def QD (o:aU):aM:=
 match o.op with
 | .store ..=>U
 | .move _=>U
 | .assign _=>U
 | .build ..=>U
 |_=>X
def IJ (P:aR) (G:BA) (Γ:aXQ) (ops:aK) (n0 i:aC) (F:aD) (H:aG) (o:aU):T (LV×List AB):=
 if Er o then JZ P G F H (n0+i) o else if QD o then Ay P G Γ F H o else if L3 G ops n0 F H o then Ay P G Γ F H o else .no
def GF (P:aR) (G:BA) (Γ:aXQ) (ops:aK) (tr:aH) (n0:aC):aH->aD->aG->T (List LV×List AB)
 | [],F,H=> .ok (F,H)
 |i::is,F,H=>match ops[i]? with
  |some o=>if o.guard.isNone&&C7 G F tr n0 o then (IJ P G Γ ops n0 i F H o).bind λq=>GF P G Γ ops tr n0 is (Av F o.dst q.1) q.2 else .no
  |none=> .no
def JV (o:aU):aM:=
 match o.op with
 | .move _=>U
 | .assign _=>U
 | .build ..=>U
 |_=>X
def ku (ops:aK) (i j:aC):aM:=
 match ops[i]?,ops[j]? with
 |some x,ah y=>!(i==j)&&x.guard.isNone&&y.guard.isNone&&(((Er x ||JV x)&&(Er y ||JV y)) ||((Er x ||JV x)&&(M5 y&&!(apD ops y==ah i))) ||((M5 x&&!(apD ops x==ah j))&&(Er y ||JV y)))&&x.apart ops y
 |_,_=>X
def cz (ops:aK):aC->aH->aZ->Bool
 |0,R,listed=>R.isEmpty&&(ay .any ops listed).isEmpty
 |n+1,R,listed=>!(ay .any ops listed).isEmpty&&(ay .any ops listed).all λi=>R.contains i&&(G5 i R).all (λj=>ku ops i j)&&cz ops n (R.erase i) (listed.setIfInBounds i U)
def PA:aH->Bool
 | []=>U
 |k::ks=>!ks.contains k&&PA ks
def alx (ops:aK) (flags:bh):aM:=letI a:=idxs U flags 0;Tm ops flags&&PA a&&a.all (λi=>an<|i<ops.size)&&cz ops (M a) a (Qy (idxs X flags 0)<|Array.replicate ops.size X)
def pux (P:aR) (G:BA) (Γ:aXQ) (F:aD) (o:aU):T LV:=
 match o.op with
 | .move x=> .ok (AM G F x)
 | .assign x=> .ok (AM G F x)
 | .pick c a b=>kY (AM G F c) (AM G F a) (AM G F b)
 | .load t x=>(match AM G F x with
  | .xq m f=>FX P [] t (.xq m f)
  |_=> .no)
 | .fieldAddr s x i=>Wz P s (AM G F x) i
 | .indexAddr t x i=>R3 P t (AM G F x) (SQ<|AM G F i) (AM G F i)
 | .build t parts=>Nk P t (parts.toList.map λq=>(q.1,IC G F q.2))
 | .buildSlice ..=>Hp P G Γ F o
 | .call {callee:=.value _,..}=>Hp P G Γ F o
 | .unOp ..=>Dd P G F o
 | .binOp op _ _ _ _=>(match op with
  | .quo=> .no
  | .rem=> .no
  | .shl=> .no
  | .shr=> .no
  |_=>Dd P G F o)
 |_=> .no
def Ns (G:BA) (F:aD) (o:aU):aM:=
 match o.op with
 | .load _ x=>(match AM G F x with
  | .own _ _=>U
  |_=>X)
 |_=>U
def isLt (P:aR) (o:aU):aM:=
 match o.op with
 | .buildSlice t len _=>an (len≠0)&&Wm P t
 |_=>X
def mkZ (zb:aM) (P:aR) (ops:aK) (i:aC) (o:aU):aM:=zb&&(isLt P o&&!aWp (yp [] ops.toList) ops.size i)
def spz (zb:aM) (P:aR) (G:BA) (Γ:aXQ) (ops:aK) (i:aC) (F:aD) (H:aG) (o:aU):T (LV×List AB):=if Ns G F o then (if mkZ zb P ops i o then (Hp P G Γ F o).bind λy=> .ok (y,H) else Ay P G Γ F H o) else .no
def HG (zb:aM) (P:aR) (G:BA) (Γ:aXQ) (ops:aK) (tr:aH) (n0:aC):aH->aD->aG->T (List LV×List AB)
 | [],F,H=> .ok (F,H)
 |i::is,F,H=>match ops[i]? with
  |some o=>if o.guard.isNone&&C7 G F tr n0 o then (spz zb P G Γ ops i F H o).bind λq=>HG zb P G Γ ops tr n0 is (Av F o.dst q.1) q.2 else .no
  |none=> .no
def L9 (P:aR) (o:aU):aM:=
 match o.op with
 | .call {callee:=.builtin .append,..}=>U
 | .buildSlice t len _=>an (len=0) ||Wm P t
 |_=>X
def kr (zb:aM) (P:aR) (ops:aK) (i j:aC):aM:=
 match ops[i]?,ops[j]? with
 |some x,ah y=>x.guard.isNone&&y.guard.isNone&&(((GZ x&&L9 P y)&&!mkZ zb P ops j y) ||(mkZ zb P ops i x&&(L9 P y ||GZ y)) ||((L9 P x ||GZ x)&&mkZ zb P ops j y))&&x.apart ops y
 |_,_=>X
def Vk (zb:aM) (P:aR) (ops:aK):aC->aH->aZ->Bool
 |0,R,listed=>R.isEmpty&&(ay .any ops listed).isEmpty
 |n+1,R,listed=>!(ay .any ops listed).isEmpty&&(ay .any ops listed).all λi=>R.contains i&&(G5 i R).all (λj=>kr zb P ops i j)&&Vk zb P ops n (R.erase i) (listed.setIfInBounds i U)
def aJz (ops:aK) (i:aC):aH->List Nat
 | []=>[i]
 |j::js=>if preB ops j i then i::j::js else j::aJz ops i js
def RE (ops:aK):aH->List Nat
 | []=>[]
 |i::is=>if (ops[i]?).any GZ then aJz ops i (RE ops is) else i::RE ops is
def zfl (P:aR) (ops:aK) (flags:bh):aM:=!Vk X P ops (M<|idxs U flags 0) (RE ops<|idxs U flags 0) (Qy (idxs X flags 0)<|Array.replicate ops.size X)
def jK (P:aR) (ops:aK) (flags:bh):aM:=letI a:=idxs U flags 0;Tm ops flags&&((RE ops a).all (λi=>flags.getD i X)&&Vk (zfl P ops flags) P ops (M a) (RE ops a) (Qy (idxs X flags 0)<|Array.replicate ops.size X))
def kg (P:aR) (G:BA) (Γ:aXQ) (ops:aK) (F:aD) (H:aG):T (List LV×List AB):=
 let tr:=tracked H ops.toList F
 let flags:=fk (λo=>isSp P o ||apJ H ops.toList F tr o) [] ops.toList
 if kv ops flags&&P.follows .mixedOrders&&tr.all (λk=>an<|k<M H) then
  (Ke (Fb ops.toList) F H<|II P G Γ ops tr H (Eo tr 0 H) flags ops.toList F).bind λq=>p2x P G Γ ops tr (M H) flags ops.toList q.1 H
 else if (Wy ops flags ||jK P ops flags)&&P.follows .mixedOrders&&tr.all (λk=>an<|k<M H) then
  (Ke (Fb ops.toList) F H<|II P G Γ ops tr H (Eo tr 0 H) flags ops.toList F).bind λq=>if Wy ops flags then Fj P G Γ ops tr (M H) (idxs U flags 0) q.1 H else HG (zfl P ops flags) P G Γ ops tr (M H) (RE ops<|idxs U flags 0) q.1 H
 else if alx ops flags&&P.follows .mixedOrders&&tr.all (λk=>an<|k<M H) then
  (Ke (Fb ops.toList) F H<|II P G Γ ops tr H (Eo tr 0 H) flags ops.toList F).bind λq=>GF P G Γ ops tr (M H) (idxs U flags 0) q.1<|H++aq ops.size GQ
 else .no
def aJT (ops:bx) (s:aC):aC:=
 match ops.find? (λo=>o.dst==ah s) with
 |some o=>match o.op with
  | .move (.tmp y)=>y
  |_=>s
 |none=>s
def isApp (o:aU):aM:=
 match o.op with
 | .call {callee:=.builtin .append,..}=>U
 |_=>X
def tY (P:aR) (ops:bx) (F:aD):Option (Nat×IntKind×Int×Nat):=
 if ops.any isApp then
  ops.findSome? λo=>match o.op with
   | .indexAddr t _ (.tmp s)=>match P.underlying t with
    |some (.array len e)=>match P.underlying e,F.getD (aJT ops s) .junk with
     |some (.slice _),.v (ag k n)=>ah (aJT ops s,k,n,len)
     |_,_=>aj
    |_=>aj
   |_=>aj
 else aj
def splitN {α:Type}(f:aC->T α) (n:Y):aC->aC->T α
 |0,_=> .no
 |1,j=>f j
 |m+2,j=> .br (n==(j:Y)) (f j)<|splitN f n (m+1)<|j+1
def lA (P:aR) (G:BA) (Γ:aXQ) (ops:aK) (F:aD) (H:aG):T (List LV×List AB):=
 match tY P ops.toList F with
 |some (s,k,n,len)=> .req (0<=n/\n<(len:Y)) (splitN (λj=>kg P G Γ ops (F.set s<|.ki k j) H) n len 0)
 |none=>kg P G Γ ops F H
def hwx (P:aR) (G:BA) (Γ:aXQ) (F:aD) (H:aG) (o:aU):T LV:=
 match o.op with
 | .call c=>(match c.callee with
  | .builtin .max=>Dd P G F o
  |_=>Hp P G Γ F o)
 | .move x=> .ok (AM G F x)
 | .assign x=> .ok (AM G F x)
 | .load t x=>FX P H t (AM G F x)
 | .indexAddr t x i=>R3 P t (AM G F x) (SQ<|AM G F i) (AM G F i)
 | .fieldAddr s x i=>Wz P s (AM G F x) i
 | .nilCheck x=>match AM G F x with
  | .own k off=> .ok (.own k off)
  | .op k es i j=> .ok (.op k es i j)
  | .xq n f=> .ok (.xq n f)
  |_=> .no
 | .binOp op _ _ _ _=>match op with
  | .add=>Dd P G F o
  | .sub=>Dd P G F o
  | .mul=>Dd P G F o
  |_=> .no
 |_=> .no
def aRI (G:BA) (Γ:aXQ) (ops:aK):bp:=(au ops.size).find? λi=>
 match ops[i]? with
 |some o=>(match callOf G [] o with
  |some (g,_)=>(Γ g).isNone
  |none=>X)
 |none=>X
def OX (ops:aK) (i:aC):aH:=
 match ops[i]? with
 |some o=>(o.after.toList.filter<|Region.binds .any).map (·.on)
 |none=>[]
def H5 (ops:aK) (i:aC):aH:=kz .any ops ops.size<|OX ops i
def G4 (ops:aK) (i:aC):bA:=(ops[i]?).bind (·.dst)
def NX (ops:aK) (i:aC):List Tmp:=
 match ops[i]? with
 |some o=>o.looksAt ops
 |none=>[]
def Q4 (ops:aK) (w:aC):aH:=(au ops.size).filter λi=>!(i==w)&&!(H5 ops i).contains w
def allA (ops:aK) (w i:aC):aM:=(Q4 ops w).all λj=>(H5 ops i).contains j
def RA (ops:aK) (w:aC):aH:=(au ops.size).filter λi=>!(i==w)&&((H5 ops i).contains w&&!allA ops w i)
def K3 (ops:aK) (w:aC):aH:=(au ops.size).filter λi=>!(i==w)&&((H5 ops i).contains w&&allA ops w i)
def kZ (ops:aK) (w:aC):aH:=Q4 ops w++([w]++RA ops w)
def aXu (ops:aK) (i j:aC):aM:=
 match G4 ops j with
 |some d=>(i==j || !(G4 ops i==ah d))&&(!(NX ops i).contains d ||(!(i==j)&&an (j<i)&&(H5 ops i).contains j))
 |none=>X
def aUG (ops:aK) (i j:aC):aM:=
 match G4 ops j with
 |some d=>!(NX ops i).contains d
 |none=>X
def okW (ops:aK) (w n:aC):aM:=
 let AW:=kZ ops w
 AW.all (λi=>(match ops[i]? with|some o=>o.guard.isNone|none=>X)&&(match G4 ops i with|some d=>an (d<n) |none=>X)&&
  (OX ops i).all (λp=>an (p<i)&&AW.contains p)&&AW.all (λj=>aXu ops i j))&&
 ((K3 ops w).all (λb=>AW.all λi=>(H5 ops b).contains i)&&(Q4 ops w++[w]).all λi=>([w]++RA ops w).all λj=>aUG ops i j)
def goW (P:aR) (G:BA) (Γ:aXQ) (ops:aK) (H:aG):aH->aD->T (List LV)
 | [],F=> .ok F
 |i::is,F=>match ops[i]? with
  |some o=>(hwx P G Γ F H o).bind λy=>goW P G Γ ops H is (Av F o.dst y)
  |none=> .no
def dF (P:aR) (G:BA) (Γ:aXQ) (ops:aK) (H:aG) (F:aD):aH->T Unit
 | []=> .ok ()
 | i::is=>match ops[i]? with
  |some o=>(match o.op with
   | .load _ _=>(hwx P G Γ F H o).bind λy=> .req (y=(match o.dst with|some d=>F.getD d .junk|none=> .junk)) (dF P G Γ ops H F is)
   |_=>dF P G Γ ops H F is)
  |none=> .no
def KZ (ops:aK) (w:aC):aZ:=((au ops.size).map λi=>(kZ ops w).contains i).toArray
def aXc (ops:aK):aC->aZ->List Nat
 |0,_=>[]
 |n+1,l=>match ay .any ops l with
  | []=>[]
  |i::_=>i::aXc ops n (l.setIfInBounds i U)
def JU (ops:aK) (w:aC):aH:=aXc ops (M<|K3 ops w)<|KZ ops w
def aCx (P:aR) (G:BA) (Γ:aXQ) (K:aX5) (ops:aK) (w:aC) (F:aD) (H:aG):T (List LV×List AB):=
 if okW ops w (M F)&&P.follows .mixedOrders&&(M (JU ops w)==M (K3 ops w))&&(pT ops (JU ops w) (KZ ops w) ||Lz ops (M<|JU ops w) (JU ops w) (KZ ops w)) then
  match ops[w]? with
  |some o=>(goW P G Γ ops H (Q4 ops w) F).bind λF1=>(opk P G Γ K F1 H o).bind λq=>(dF P G Γ ops q.2 F1<|(Q4 ops w).filter λi=>!(H5 ops w).contains i).bind λ_=>(goW P G Γ ops q.2 (RA ops w)<|Av F1 o.dst q.1).bind λF3=>Fj P G Γ ops (au<|M q.2) (M q.2) (JU ops w) F3 q.2
  |none=> .no
 else .no
def aD2 (P:aR) (G:BA) (Γ:aXQ) (K:aX5) (ops:aK) (F:aD) (H:aG):T (List LV×List AB):=
 match aRI G Γ ops with
 |some w=>aCx P G Γ K ops w F H
 |none=>lA P G Γ ops F H
def H3:bB->Nat
 | .region id _ _=>id
 | .seq a _=>H3 a
 | .block _ b=>H3 b
 | .loop b=>H3 b
 | .cond _ a _=>H3 a
 |_=>0
abbrev Lv:=Nat->aD->aG->T (Ex×List LV×List AB)
abbrev Py:=Code->aD->aG->T (Ex×List LV×List AB)
def LF (L:Lv):Py:=λb=>L<|H3 b
def xn:aX1->Option Ex
 |some ⟨_,_,.Cq _ _ _ .ready,X⟩=>ah .normal
 |some ⟨_,_,.Cq _ _ _ (.done x),X⟩=>match x with
  | .normal=>aj
  |x=>ah x
 |_=>aj
def aEQ:aXT->List Nat
 | .tmp t=>[t]
 |_=>[]
def H8:bB->List Nat
 | .region _ ops _=>ops.toList.flatMap λo=>o.op.operands.toList.flatMap aEQ
 | .seq a b=>H8 a++H8 b
 | .cond c a b=>aEQ c++H8 a++H8 b
 | .block _ b=>H8 b
 | .loop b=>H8 b
 | .rangeFunc f _ a b=>aEQ f++H8 a++H8 b
 | .scope b=>H8 b
 |_=>[]
def PO (us:aH) (F:aD):aD:=(au<|M F).map λi=>if us.contains i then F.getD i .junk else .junk
def DL (P:aR) (G:BA) (Γ:aXQ) (K:aX5) (L:Py):bB->aD->aG->T (Ex×List LV×List AB)
 | .skip,F,H=> .ok (.normal,F,H)
 | .ret,F,H=> .ok (.ret,F,H)
 | .exit n,F,H=> .ok (.exit n,F,H)
 | .region _ ops d,F,H=>(if d then aD2 P G Γ K ops F H else yJ P G Γ K ops F H).bind λq=> .ok (.normal,q.1,q.2)
 | .seq a b,F,H=>(DL P G Γ K L a F H).bind λq=>match q.1 with
  | .normal=>DL P G Γ K L b q.2.1 q.2.2
  |x=> .ok (x,q.2)
 | .cond c a b,F,H=>match c with
  | .tmp d=>match F.getD d .junk with
   | .bl U=>DL P G Γ K L a F H
   | .bl X=>DL P G Γ K L b F H
   | .v (.bool g)=> .br g (DL P G Γ K L a (F.set d<|.bl U) H) (DL P G Γ K L b (F.set d<|.bl X) H)
   |_=> .no
  | .const (.bool U)=>DL P G Γ K L a F H
  | .const (.bool X)=>DL P G Γ K L b F H
  |_=> .no
 | .block id a,F,H=>(DL P G Γ K L a F H).bind λq=>match q.1 with
  | .exit n=>if n=id then .ok (.normal,q.2) else .ok (.exit n,q.2)
  |x=> .ok (x,q.2)
 | .loop a,F,H=>L a F H
 | .scope a,F,H=>DL P G Γ K L a F H
 | .label _,F,H=> .ok (.normal,F,H)
 | .rangeFunc f ps asg body,F,H=>match AM G F f with
  | .fn g cap=>match P.funcs[g]? with
   | some fn=>if fn.body.isSome&&!(fn.name== "runtime.NumGoroutine") then
     (K.k g (.CU H.length::cap)<|H++[⟨PO (H8 asg++H8 body) F,0,.Cq ps asg body .ready,X⟩]).bind λq=>match xn q.2[H.length]? with
      |some x=> .ok (x,F,q.2.set H.length ⟨[],0,.dead,X⟩)
      |none=> .no
    else .no
   |none=> .no
  |_=> .no
 |_,_,_=> .no
def SH (P:aR) (fn:aXX) (F:aD) (H:aG):aYe->T (List LV)
 | []=> .ok []
 | .tmp t::rs=>(SH P fn F H rs).bind λl=> .ok (norm (F.getD t .junk)::l)
 | .cell a t::rs=>(FX P H t<|F.getD a .junk).bind λy=>(SH P fn F H rs).bind λl=> .ok (y::l)
def one (l:aD):LV:=match l with| [x]=>x|l=>RJ l
def yU (P:aR) (fn:aXX) (t:aD->aG->T (Ex×List LV×List AB)) (args:aD):T LV:=
 (t (args++aq (fn.ntmps-M args) (.v undef)) []).bind λq=>match q.1 with
  | .exit _=> .no
  |_=>(SH P fn q.2.1 q.2.2 fn.results.toList).bind λl=>if noOwn (one l) then .ok (one l) else (EX q.2.2 8<|one l).bind λ_=> .ok<|C8 q.2.2 8<|one l
def yR (P:aR) (G:BA) (Γ:aXQ) (K:aX5) (L:Lv) (fn:aXX) (args:aD):T LV:=
 match fn.body with
 |some c=>yU P fn (DL P G Γ K (LF L) c) args
 |none=> .no
def DY:List (FuncId×(List LV->T LV))->Specs
 | [],_=>aj
 |p::ps,g=>if g=p.1 then ah p.2 else DY ps g
def Ao:Lv:=λ_ _ _=> .no
def fv:Py:=λ_ _ _=> .no
def IE:bB->Bool
 | .seq a b=>IE a&&IE b
 | .cond _ a b=>IE a&&IE b
 | .block _ b=>IE b
 | .loop b=>IE b
 | .rangeFunc ..=>X
 | .scope b=>IE b
 |_=>U
def vP (t:aD->aG->T (Ex×List LV×List AB)):aC->aD->aG->T (Ex×List LV×List AB)
 |0,_,_=> .no
 |m+1,F,H=>(t F H).bind λq=>match q.1 with
  | .normal=>vP t m q.2.1 q.2.2
  |x=> .ok (x,q.2)
def EY (P:aR) (G:BA) (Γ:aXQ) (K:aX5) (m:aC):aC->Py
 |0=>fv
 |d+1=>λb=>vP (DL P G Γ K (EY P G Γ K m d) b) m
def Xo (F:aD):List Tmp->aD->List LV
 |t::ts,x::xs=>Xo (F.set t x) ts xs
 |_,_=>F
abbrev DZ:=Hand->bn->aC->Py
def Ep (P:aR) (G:BA) (Γ:aXQ) (LL:DZ) (K:aX5):aX5:=
 ⟨λg args H=>match P.funcs[g]? with
  | some fn=>match fn.body with
   |some c=>(DL P G Γ K (LL K g<|M H) c (args++aq (fn.ntmps-M args) (.v undef)) H).bind λq=>match q.1 with
    | .exit _=> .no
    |_=>(SH P fn q.2.1 q.2.2 fn.results.toList).bind λl=> .ok (one l,q.2.2)
   |none=> .no
  |none=> .no,
  λk args H=>match H[k]? with
  | some ⟨F,t,.Cq ps asg body .ready,X⟩=>if M args=ps.size/\IE asg=U/\IE body=U then
    (DL P G Γ K fv asg (Xo F ps.toList args) H).bind λ(q:Ex×List LV×List AB)=>match q.1 with
     | .normal=>(match q.2.2[k]? with
      | some ⟨F1,_,.Cq ps1 asg1 body1 .ready,X⟩=>(DL P G Γ K (EY P G Γ K 20 2) body q.2.1<|q.2.2.set k ⟨F1,t,.Cq ps1 asg1 body1 .busy,X⟩).bind λ(r:Ex×List LV×List AB)=>match r.2.2[k]? with
       |some ⟨F2,_,.Cq ps2 asg2 body2 .busy,X⟩=>(match r.1 with
        | .normal=> .ok (.bl U,r.2.2.set k ⟨F2,t,.Cq ps2 asg2 body2 .ready,X⟩)
        |x=> .ok (.bl X,r.2.2.set k ⟨F2,t,.Cq ps2 asg2 body2<|.done x,X⟩))
       |_=> .no
      |_=> .no)
     |_=> .no
   else .no
  |_=> .no⟩
def inl (P:aR) (G:BA) (Γ:aXQ) (LL:DZ):aC->Hand
 |0=>ER
 |d+1=>Ep P G Γ LL<|inl P G Γ LL d
abbrev Does:=FuncId->Option (List LV->aG->T (LV×List AB))
def Vn (P:aR) (G:BA) (Γ:aXQ) (LL:DZ) (C:Does):aC->Hand
 |0=>ER
 |d+1=>⟨λg args H=>match C g with
  |some m=>m args H
  |none=>(Ep P G Γ LL<|Vn P G Γ LL C d).k g args H,(Ep P G Γ LL<|Vn P G Γ LL C d).y⟩
structure Gz where
 z:aC->Prop
 gh:List (LV×Value)
 Cv:aH
variable {P : Program} {G : BA} {Γ : Specs} {β : Nat -> Loc} {Z : Nat -> Prop} {Z0 : Gz} {w w0 : World} {F : List LV} {H : List AB} {a : Act} {ds : List Deferred}
def Cs {x:LV}{y z:aV}(h:pl x=ah y) (hr:R β Z w x z):z=y:=by
 cases x with
 |v q=>simp only [pl,Aj] at h;simp only [R] at hr;rw [hr,h]
 |bl b=>simp only [pl,Aj] at h;simp only [R] at hr;rw [hr,h]
 |ki k n=>simp only [pl,Aj] at h;simp only [R] at hr;rw [hr,h]
 | fn f l=>
  cases l with
  |nil=>
   simp only [pl,Aj] at h;simp only [R,RL] at hr;obtain ⟨ys,h1,h2⟩:=hr
   have:ys=#[]:=A8
   grind
  |cons _ _=>simp [pl] at h
 |_=>simp [pl] at h
def aNO {x:LV}{y:aV}(h:pl x=ah y):R β Z w x y:=by
 cases x with
 |v q=>simp only [pl,Aj] at h;simp only [R];exact h.symm
 |bl b=>simp only [pl,Aj] at h;simp only [R];exact h.symm
 |ki k n=>simp only [pl,Aj] at h;simp only [R];exact h.symm
 |fn f l=>
  cases l with
  |nil=>simp only [pl,Aj] at h;simp only [R,RL];exact ⟨#[],h.symm,rfl⟩
  |cons _ _=>simp [pl] at h
 |_=>simp [pl] at h
def aRt:∀ {l:aD}{ys zs:aT},B3 l=ah ys->RL β Z w l zs->zs=ys
 | [],ys,zs,h,hr=>by simp only [B3,Aj] at h;simp only [RL] at hr;rw [hr,h]
 | x::xs,ys,zs,h,hr=>by
  simp only [B3] at h;split at h
  ·rename_i y ys' h1 h2
   simp only [Aj] at h;obtain ⟨y',zs',e1,e2,e3⟩:=hr;rw [e1,Cs h1 e2,aRt h2 e3,h]
  ·cases h
def Qw {x:LV}{y:aV}(h:R β Z w x y):R β Z w (norm x) y:=aAO
def Wh {n:aC}{x:LV}(h:okV n x):okV n (norm x):=aAO
def aH1:∀ {l:aD}{ys:aT},RL β Z w l ys->RL β Z w (l.map norm) ys
 | [],_,h=>A8
 |x::xs,ys,h=>by
  obtain ⟨y,zs,h1,h2,h3⟩:=h;exact ⟨y,zs,h1,Qw h2,aH1 h3⟩
def tD {n:aC}:∀ {l:aD},AU n l->AU n (l.map norm)
 | [],_=>trivial
 |x::xs,h=>by
  exact ⟨Wh h.1,tD h.2⟩
def WT {l:aD}{ys:aX}(h:RL β Z w l ys.toList):R β Z w (K4 l) (.agg ys):=by
 unfold K4;exact aOw
def uM {l:aD}{ys:aX}(h:RL β Z w l ys.toList):R β Z w (RJ l) (.tuple ys):=by
 unfold RJ;exact aOw
def Ql {n:aC}{l:aD}(h:AU n l):okV n (K4 l):=by
 unfold K4;split
 ·trivial
 ·simpa only [okV] using tD h
def tG {n:aC}{l:aD}(h:AU n l):okV n (RJ l):=by
 unfold RJ;split
 ·trivial
 ·simpa only [okV] using tD h
def Tu (n:aC):∀(l:aT),AU n (l.map .v)
 | []=>trivial
 |_::xs=>⟨ak,Tu n xs⟩
def V4:∀(l:aT),RL β Z w (l.map .v) l
 | []=>cg
 |x::xs=>by simp only [ES,RL,R];exact ⟨x,xs,rfl,rfl,V4 xs⟩
def aG1 {x:LV}{y:aV}(h:X1 x=U) (hr:R β Z w x y):K6 y=true:=by
 cases x with
 |v q=>simp only [R] at hr;rw [hr];exact h
 |bl b=>simp only [R] at hr;rw [hr];rfl
 |ki k n=>simp only [R] at hr;rw [hr];rfl
 |own k off=>simp only [R] at hr;rw [hr];rfl
 |fn f l=>simp only [R] at hr;obtain ⟨ys,h1,_⟩:=hr;rw [h1];rfl
 |fb f l=>simp only [R] at hr;obtain ⟨ys,h1,_⟩:=hr;rw [h1];rfl
 |xq n f=>simp only [R] at hr;obtain ⟨b,off,h1,_⟩:=hr;rw [h1];rfl
 |os k es off n=>
  simp only [R] at hr;split at hr
  ·rw [hr.2.2];rfl
  ·obtain ⟨_,a,h1,_⟩:=hr;rw [h1];rfl
 |op k es i j=>simp only [R] at hr;rw [hr.2];rfl
 |om k=>simp only [R] at hr;rw [hr];rfl
 |mp kd ks vs=>simp only [R] at hr;obtain ⟨r,es,c,h1,_⟩:=hr;rw [h1];rfl
 |oc k es off n c=>simp only [R] at hr;obtain ⟨_,a,h1,_⟩:=hr;rw [h1];rfl
 |CU k=>simp only [R] at hr;rw [hr];rfl
 |xl e l=>simp only [R] at hr;obtain ⟨b,off,h1,_⟩:=hr;rw [h1];rfl
 |agg l=>simp [X1] at h
 |AQ l=>simp [X1] at h
 |junk=>simp [X1] at h
def aq3 {y:aV}(h:K6 y=U):y.cells=#[y]:=by cases y<;>first|rfl|(simp [K6] at h)
def sB {x:LV}{y:aV}{cs:aD}(h:CT x=ah cs) (hr:R β Z w x y):RL β Z w cs y.cells.toList/\(∀z∈y.cells.toList,K6 z=U):=by
 have single:∀x:LV,X1 x=U->R β Z w x y->RL β Z w [x] y.cells.toList/\(∀z∈y.cells.toList,K6 z=U):=λx hx hr=>by
  have h1:=aG1 hx hr
  rw [aq3 h1];refine ⟨?_,?_⟩
  ·simp only [RL];exact ⟨y,[],rfl,hr,rfl⟩
  ·intro z hz
   grind
 cases x with
 | v q=>
  simp only [CT] at h;split at h
  ·rename_i ha
   simp only [Aj] at h;subst h hr;exact ⟨V4 _,λz hz=>BO.1 ha z hz⟩
  ·cases h
 | agg l=>
  simp only [CT] at h;split at h
  ·rename_i ha
   simp only [Aj] at h;obtain ⟨ys,h1,h2⟩:=hr;subst h h1;refine ⟨h2,λz hz=>?_⟩
   obtain ⟨i,hi,hz'⟩:=Hx.1 hz
   have hlen:=RL.length h2
   have hl:l[i]? =ah (l[i]'(by simp only [Value.cells] at hi;omega)):=Di _
   obtain ⟨y',e1,e2⟩:=RL.get i _ h2 hl
   have:y'=z:=by
    simp only [Value.cells] at hi hz'
    grind
   rw [<-this];exact aG1 (BO.1 ha _<|Gl _) e2
  ·cases h
 |bl b=>simp only [CT,Aj] at h;subst h;exact single _ rfl hr
 |ki k n=>simp only [CT,Aj] at h;subst h;exact single _ rfl hr
 |own k off=>simp only [CT,Aj] at h;subst h;exact single _ rfl hr
 |fn f l=>simp only [CT,Aj] at h;subst h;exact single _ rfl hr
 |fb f l=>simp only [CT,Aj] at h;subst h;exact single _ rfl hr
 |xq n f=>simp only [CT,Aj] at h;subst h;exact single _ rfl hr
 |os k es off n=>simp only [CT,Aj] at h;subst h;exact single _ rfl hr
 |op k es i j=>simp only [CT,Aj] at h;subst h;exact single _ rfl hr
 |om k=>simp only [CT,Aj] at h;subst h;exact single _ rfl hr
 |mp kd ks vs=>simp only [CT,Aj] at h;subst h;exact single _ rfl hr
 |oc k es off n c=>simp only [CT,Aj] at h;subst h;exact single _ rfl hr
 |CU k=>simp only [CT,Aj] at h;subst h;exact single _ rfl hr
 |xl e l=>simp only [CT,Aj] at h;subst h;exact single _ rfl hr
 |AQ l=>simp [CT] at h
 |junk=>simp [CT] at h
def rJ {n:aC}{x:LV}{cs:aD}(h:CT x=ah cs) (hr:okV n x):AU n cs:=by
 cases x with
 |v q=>
  simp only [CT] at h;split at h
  ·simp only [Aj] at h;subst h;exact Tu _ _
  ·cases h
 |agg l=>
  simp only [CT] at h;split at h
  ·simp only [Aj] at h;subst h;simpa only [okV] using hr
  ·cases h
 |bl b=>simp only [CT,Aj] at h;subst h;exact ⟨hr,ak⟩
 |ki k n=>simp only [CT,Aj] at h;subst h;exact ⟨hr,ak⟩
 |own k off=>simp only [CT,Aj] at h;subst h;exact ⟨hr,ak⟩
 |fn f l=>simp only [CT,Aj] at h;subst h;exact ⟨hr,ak⟩
 |fb f l=>simp only [CT,Aj] at h;subst h;exact ⟨hr,ak⟩
 |xq n f=>simp only [CT,Aj] at h;subst h;exact ⟨hr,ak⟩
 |os k es off n=>simp only [CT,Aj] at h;subst h;exact ⟨hr,ak⟩
 |op k es i j=>simp only [CT,Aj] at h;subst h;exact ⟨hr,ak⟩
 |om k=>simp only [CT,Aj] at h;subst h;exact ⟨hr,ak⟩
 |mp kd ks vs=>simp only [CT,Aj] at h;subst h;exact ⟨hr,ak⟩
 |oc k es off n c=>simp only [CT,Aj] at h;subst h;exact ⟨hr,ak⟩
 |CU k=>simp only [CT,Aj] at h;subst h;exact ⟨hr,ak⟩
 |xl e l=>simp only [CT,Aj] at h;subst h;exact ⟨ak,ak⟩
 |AQ l=>simp [CT] at h
 |junk=>simp [CT] at h
def QI (G:BA) (Z:aC->Prop) (w:aO):Prop:=∀g n f,G g=ah (n,f)->Z g/\∀j,j<n->w.cell? ⟨g,j,aj⟩=ah (f j)
def okB (n:aC) (b:AB):Prop:=AU n b.c/\(match b.k with| .mp _ _ vs=>AU n vs|_=>True)
def live (β:aC->aXS) (k:aC) (b:AB):Prop:=
 match b.k with
 | .cl=>True
 | .vec _ _=>(β k).cap≠aj
 | .mp ..=>True
 | .Cq ..=>True
 | .st ..=>True
 | .dead=>False
def aVD:Ex->Option Code
 | .normal=>aj
 | .exit n=>ah (.exit n)
 | .ret=>ah .ret
def LsR:LS->Loop->Prop
 | .ready,r=>r.state=.ready/\r.pending=aj
 | .busy,r=>r.state=.busy
 | .done x,r=>r.state=.done/\r.pending=aVD x
def Bb (β:aC->aXS) (Z:aC->Prop) (w:aO) (k:aC) (b:AB):Prop:=
 match b.k with
 | .cl=>∃cs,w.heap[(β k).b]? =ah (.cells cs b.t (0,0))/\RL β Z w b.c cs.toList
 | .vec e l=>match (β k).cap with
  |none=>l=[]
  |some c=>∃cs,w.heap[(β k).b]? =ah (.cells cs b.t (0,0))/\(β k).o+c*e.n<=cs.size/\M l<=c/\∀(i:aC) (d:e.D),l[i]? =ah d->RD Z w e d (β k).b ((β k).o+i*e.n)
 | .mp kd ks vs=>∃es clock,w.heap[(β k).b]? =ah (.map es clock)/\es.toList.map (·.key)=ks.map (.int kd)/\RL β Z w vs (es.toList.map (·.val))
 | .Cq ps asg body st=>∃r:Loop,w.heap[(β k).b]? =ah (.loop r)/\r.params=ps/\r.assign=asg/\r.body=body/\LsR st r/\RL β Z w b.c r.tmps.toList
 | .st e l=>∃es clock,w.heap[(β k).b]? =ah (.map es clock)/\es.toList.map (·.key)=List.map (yL e) l/\∀x,x∈es.toList->x.val=.bool U
 | .dead=>True
abbrev H0 (D:aC):Deferred:={target:=.collected D,args:=#[]}
def Fz (w:aO) (D:aC):Prop:=w.heap[D]? =ah (.deferred<|ah [])
structure RW (G:BA) (w0:aO) (Z0:Gz) (Z:aC->Prop) (β:aC->aXS) (H:aG) (w:aO):Prop where
 below:Below w0.heap.size w0 w
 Bc:∀b,Z b->b<w.heap.size
 Et:∀b,Z b->Z0.z b\/w0.heap.size<=b
 Cr:∀k b,H[k]? =ah b->live β k b->b.p=X->¬Z (β k).b
 GV:∀k b,H[k]? =ah b->live β k b->b.p=U->Z (β k).b
 low:∀k b,H[k]? =ah b->live β k b->w0.heap.size<=(β k).b
 inj:∀i j bi bj,H[i]? =ah bi->H[j]? =ah bj->live β i bi->live β j bj->bi.p=X->(β i).b=(β j).b->i=j
 blk:∀k b,H[k]? =ah b->Bb β Z w k b/\okB (M H) b
 Cy:QI G Z w
 gh:∀p,p∈Z0.gh->R β Z w p.1 p.2/\okV (M H) p.1
 Cv:∀D,D∈Z0.Cv->Z D/\Fz w D
structure RF (ds:aXR) (β:aC->aXS) (Z:aC->Prop) (w:aO) (n:aC) (F:aD) (a:bg):Prop where
 size:a.tmps.size=M F
 get:∀t x,F[t]? =ah x->R β Z w x (a.tmps.getD t undef)/\okV n x
 defers:a.defers=ds/\∀d,d∈ds->∃D,d=H0 D/\Z D/\Fz w D
def RF.eval (hF:RF ds β Z w (M H) F a) (hg:QI G Z w) (x:aXT):R β Z w (AM G F x) (a.eval x)/\okV (M H) (AM G F x):=by
 cases x with
 |tmp t=>
  simp only [AM,Act.eval];cases h:F[t]? with
  |none=>simp [List.getD,h,R,okV]
  |some y=>simp only [List.getD,h,nG];exact hF.get t y h
 |const x=>
  simp only [AM,Act.eval];cases x<;>simp [R,okV]
 | global g=>
  simp only [AM,Act.eval];split
  ·rename_i n f h
   obtain ⟨h1,h2⟩:=hg g n f h;simp only [R,okV]
   grind
  ·simp [R,okV]
 |func f=>simp only [AM,Act.eval,R,RL,okV,AU];exact ⟨⟨#[],rfl,rfl⟩,ak⟩
def T.pick {α:Type}{K:α->Prop}:∀ {t:T α},t.all K->∃x,K x/\t.all (λy=>y=x)
 | .ok x,h=>⟨x,h,rfl⟩
 | .br b t e,h=>by
  cases b with
  |true=>obtain ⟨x,h1,h2⟩:=T.pick<|h.1 rfl;exact ⟨x,h1,λ_=>h2,λhb=>LU⟩
  |false=>obtain ⟨x,h1,h2⟩:=T.pick<|h.2 rfl;exact ⟨x,h1,λhb=>LU,λ_=>h2⟩
 | .req p t,h=>by obtain ⟨x,h1,h2⟩:=T.pick h.2;exact ⟨x,h1,h.1,h2⟩
 | .no,h=>As
def cell_of_block {b:aC}{cs:aX}{t:aS}(h:w.heap[b]? =ah (.cells cs t (0,0))) (o:aC):w.cell? ⟨b,o,aj⟩=cs[o]? :=by
 simp [World.cell?,h]
def adW {b:aC}{cs:aX}{t:aS}(h:w.heap[b]? =ah (.cells cs t (0,0))) (o:aC):w.frozen? ⟨b,o,aj⟩=false:=by
 simp [World.frozen?,h]
def addr_add (b o i:aC):Addr.add ⟨b,o,aj⟩ i=⟨b,o+i,aj⟩:=by
 unfold Addr.add;split
 ·grind
 ·rfl
def eW {t:aS}{b:aM}(h:Sf P t=ah b) (w:aO):(isAgg t).run P w=.ok b w:=by
 unfold Sf at h;cases hu:P.underlying t with
 |none=>simp [hu] at h
 |some d=>
  unfold isAgg;simp only [nD,Cj hu,mr];cases d<;>simp_all
def run_sizeOf {t:aS}{n:aC}(h:HQ P t=ah n) (w:aO):(sizeOf t).run P w=.ok n w:=by
 unfold HQ at h;cases hu:P.info? t with
 |none=>simp [hu] at h
 |some d=>
  simp only [hu,Jn,Aj] at h
  simp [sizeOf,typeInfo,hu,h]
def qX {t:aS}{z:aV}(h:Ik P t=ah z) (w:aO):(zeroValue t).run P w=.ok z w:=by
 unfold Ik at h;cases hu:P.info? t with
 |none=>simp [hu] at h
 |some d=>
  simp only [hu,Oh] at h
  simp [zeroValue,typeInfo,hu,h]
def RL.take_drop {l:aD}{ys:aT}(h:RL β Z w l ys) (off n:aC):RL β Z w ((l.drop off).take n) ((ys.drop off).take n):=by
 have hl:=RL.length h
 refine RL.Cm A8 λi x hx=>?_
 rw [LN] at hx|-;split at hx
 ·rename_i hi
  rw [AD hi];rw [FR] at hx|-;exact RL.get _ _ h hx
 ·cases hx
def AU.take_drop {n:aC}{l:aD}(h:AU n l) (off m:aC):AU n ((l.drop off).take m):=by
 refine AU.Cm λi x hx=>?_
 rw [LN] at hx;split at hx
 ·rw [FR] at hx;exact AU.get _ _ h hx
 ·cases hx
def RF.mono {β':aC->aXS}{Z':aC->Prop}{w':aO}{n m:aC}(hF:RF ds β Z w n F a) (hn:n<=m) (hβ:∀k,k<n->β' k=β k) (hZ:∀b,Z b->Z' b)
  (hw:∀b,Z b->w'.heap[b]? =w.heap[b]?):RF ds β' Z' w' m F a:=
 ⟨hF.size,λt x hx=>⟨R.mono hβ hZ hw x _ (hF.get t x hx).2 (hF.get t x hx).1,okV.mono hn x (hF.get t x hx).2⟩,hF.defers.1,λd hd=>by
  obtain ⟨D,h1,h2,h3⟩:=hF.defers.2 d hd;exact ⟨D,h1,hZ D h2,by unfold Fz;rw [hw D h2];exact h3⟩⟩
def okB.mono {n m:aC}(h:n<=m) {b:AB}(hb:okB n b):okB m b:=by
 refine ⟨AU.mono h _ hb.1,?_⟩
 have:=hb.2
 split
 ·rename_i hk;rw [hk] at this;exact AU.mono h _ this
 ·trivial
def KY {β':aC->aXS}{k:aC}{b:AB}(h:β' k=β k):live β' k b=live β k b:=by
 unfold live;rw [h]
def Bb.keep {β':aC->aXS}{Z':aC->Prop}{w':aO}{n k:aC}{b:AB}(hβ:∀k,k<n->β' k=β k) (hZ:∀b,Z b->Z' b) (hw:∀b,Z b->w'.heap[b]? =w.heap[b]?) (hk:β' k=β k)
  (hb:live β k b->w'.heap[(β k).b]? =w.heap[(β k).b]?) (hok:okB n b) (h:Bb β Z w k b):Bb β' Z' w' k b:=by
 unfold Bb at*;unfold live at hb;unfold okB at hok;rw [hk];split at h
 ·rename_i hbk
  obtain ⟨cs,h1,h2⟩:=h;exact ⟨cs,A8,RL.mono hβ hZ hw _ _ hok.1 h2⟩
 ·rename_i e l hbk
  simp only [hbk] at hb|-;split at h
  ·rename_i hc
   grind
  ·rename_i c hc
   have hb':=hb (by rw [hc];simp)
   obtain ⟨cs,h1,h2,h3,h4⟩:=h;exact ⟨cs,A8,h2,h3,λi d hd=>RD.keep hZ hw e d _ _ hb'<|h4 i d hd⟩
 ·rename_i kd ks vs hbk
  simp only [hbk] at hb hok|-;obtain ⟨es,clock,h1,h2,h3⟩:=h;exact ⟨es,clock,A8,h2,RL.mono hβ hZ hw _ _ hok.2 h3⟩
 ·rename_i ps asg body st hbk
  obtain ⟨r,h1,h2,h3,h4,h5,h6⟩:=h;exact ⟨r,A8,h2,h3,h4,h5,RL.mono hβ hZ hw _ _ hok.1 h6⟩
 ·rename_i e l hbk
  grind
 ·rename_i hbk
  grind
def RW.lt (hW:RW G w0 Z0 Z β H w) {k:aC}{b:AB}(hk:H[k]? =ah b) (hl:live β k b):(β k).b<w.heap.size:=by
 have h:=(hW.blk k b hk).1
 unfold Bb at h;unfold live at hl;split at h
 ·obtain ⟨cs,h1,_⟩:=h
  grind
 ·rename_i hbk
  split at h
  ·grind
  ·obtain ⟨cs,h1,_⟩:=h
   grind
 ·obtain ⟨es,clock,h1,_⟩:=h
  grind
 ·obtain ⟨r,h1,_⟩:=h
  grind
 ·obtain ⟨es,clock,h1,_⟩:=h
  grind
 ·rename_i hbk
  grind
def EJ {w w':aO}(hb:Below w.heap.size w w') {b:aC}(h:b<w.heap.size):w'.heap[b]? =w.heap[b]? :=hb.block b h
def QI.mono {Z':aC->Prop}{w':aO}(h:QI G Z w) (hZ:∀b,Z b->Z' b) (hw:∀b,Z b->w'.heap[b]? =w.heap[b]?):QI G Z' w':=λg n f hg=>by
 obtain ⟨h1,h2⟩:=h g n f hg;exact ⟨hZ _ h1,λj hj=>by rw [Qc<|hw g h1];exact h2 j hj⟩
def RW.call {w':aO}(hW:RW G w0 Z0 Z β H w) (hb:Below w.heap.size w w'):RW G w0 Z0 (λb=>Z b\/(w.heap.size<=b/\b<w'.heap.size)) β H w':=by
 have hs:=hb.size
 have h0:=hW.below.size
 have hw:∀b,Z b->w'.heap[b]? =w.heap[b]? :=λb hz=>EJ hb<|hW.Bc b hz
 refine ⟨hW.below.trans<|hb.mono h0,λb hz=>?_,λb hz=>?_,λk b hk hl hp hz=>?_,λk b hk hl hp=> .inl<|hW.GV k b hk hl hp,hW.low,hW.inj,λk b hk=>?_,hW.Cy.mono (λ_ h=> .inl h) hw,λp hp=>⟨R.mono (n:=M H) (λ_ _=>rfl) (λ_ h=> .inl h) hw _ _ (hW.gh p hp).2 (hW.gh p hp).1,(hW.gh p hp).2⟩,λD hD=>⟨.inl (hW.Cv D hD).1,cG⟩⟩
 ·rcases hz with hz|hz
  ·have:=hW.Bc b hz;omega
  ·exact hz.2
 ·rcases hz with hz|hz
  ·exact hW.Et b hz
  ·omega
 ·rcases hz with hz|hz
  ·exact hW.Cr k b hk hl hp hz
  ·have:=hW.lt hk hl;omega
 ·obtain ⟨h1,h2⟩:=hW.blk k b hk
  exact ⟨h1.keep (λ_ _=>rfl) (λ_ h=> .inl h) hw rfl (λhl=>EJ hb<|hW.lt hk hl) h2,h2⟩
def RW.same {w':aO}(hW:RW G w0 Z0 Z β H w) (hb:Below w.heap.size w w'):RW G w0 Z0 Z β H w':=by
 have hs:=hb.size
 have h0:=hW.below.size
 have hw:∀b,Z b->w'.heap[b]? =w.heap[b]? :=λb hz=>EJ hb<|hW.Bc b hz
 refine ⟨hW.below.trans<|hb.mono h0,λb hz=>?_,hW.Et,hW.Cr,hW.GV,hW.low,hW.inj,λk b hk=>?_,hW.Cy.mono (λ_ h=>h) hw,λp hp=>⟨R.mono (n:=M H) (λ_ _=>rfl) (λ_ h=>h) hw _ _ (hW.gh p hp).2 (hW.gh p hp).1,(hW.gh p hp).2⟩,λD hD=>⟨(hW.Cv D hD).1,cG⟩⟩
 ·have:=hW.Bc b hz;omega
 ·obtain ⟨h1,h2⟩:=hW.blk k b hk
  exact ⟨h1.keep (λ_ _=>rfl) (λ_ h=>h) hw rfl (λhl=>EJ hb<|hW.lt hk hl) h2,h2⟩
def RW.Kr {ℓ:aXS}{nb:AB}(hW:RW G w0 Z0 Z β H w) (hp:nb.p=X) (hok:okB (M H+1) nb)
  (hf:live (λ_=>ℓ) 0 nb->¬Z ℓ.b/\w0.heap.size<=ℓ.b/\∀j bj,H[j]? =ah bj->live β j bj->(β j).b≠ℓ.b)
  (hB:∀β':aC->aXS,(∀k,k<M H->β' k=β k)->β' (M H)=ℓ->Bb β' Z w (M H) nb):
  ∃β',(∀k,k<M H->β' k=β k)/\β' (M H)=ℓ/\RW G w0 Z0 Z β' (H++[nb]) w:=by
 let β':aC->aXS:=λk=>if k=M H then ℓ else β k
 have hb':∀k,k<M H->β' k=β k:=λk hk=>A8
 have hbn:β' (M H)=ℓ:=by simp [β']
 have hlive:live β' (M H) nb=live (λ_=>ℓ) 0 nb:=by unfold live;rw [hbn]
 have old:∀k b,(H++[nb])[k]? =ah b->(k<M H/\H[k]? =ah b/\β' k=β k)\/(k=M H/\b=nb):=λk b h=>by
  by_cases hk:k<M H
  ·grind
  ·have hkl:k=M H:=A8
   subst hkl
   simp at h
   exact .inr ⟨rfl,h.symm⟩
 refine ⟨β',hb',hbn,hW.below,hW.Bc,hW.Et,λk b hk hl hp'=>?_,λk b hk hl hp'=>?_,λk b hk hl=>?_,λi j bi bj hi hj li lj hpi e=>?_,λk b hk=>?_,hW.Cy,λp hp=>⟨R.mono hb' (λ_ h=>h) (λ_ _=>rfl) _ _ (hW.gh p hp).2 (hW.gh p hp).1,okV.mono AJ _ (hW.gh p hp).2⟩,hW.Cv⟩
 ·rcases old k b hk with ⟨h1,h2,h3⟩ |⟨rfl,rfl⟩
  ·rw [h3];rw [KY h3] at hl;exact hW.Cr k b h2 hl hp'
  ·grind
 ·rcases old k b hk with ⟨h1,h2,h3⟩ |⟨rfl,rfl⟩
  ·rw [h3];rw [KY h3] at hl;exact hW.GV k b h2 hl hp'
  ·rw [hp] at hp';cases hp'
 ·rcases old k b hk with ⟨h1,h2,h3⟩ |⟨rfl,rfl⟩
  ·rw [h3];rw [KY h3] at hl;exact hW.low k b h2 hl
  ·grind
 ·rcases old i bi hi with ⟨h1,h2,h3⟩ |⟨rfl,rfl⟩
  ·rw [KY h3] at li
   rcases old j bj hj with ⟨g1,g2,g3⟩ |⟨rfl,rfl⟩
   ·rw [KY g3] at lj;rw [h3,g3] at e;exact hW.inj i j bi bj h2 g2 li lj hpi e
   ·grind
  ·rw [hlive] at li
   rcases old j bj hj with ⟨g1,g2,g3⟩ |⟨rfl,rfl⟩
   ·rw [KY g3] at lj;rw [hbn,g3] at e;exact absurd e.symm<|(hf li).2.2 j bj g2 lj
   ·rfl
 ·have hlen:M (H++[nb])=M H+1:=AJ
  rw [hlen];rcases old k b hk with ⟨h1,h2,h3⟩ |⟨rfl,rfl⟩
  ·obtain ⟨g1,g2⟩:=hW.blk k b h2
   exact ⟨g1.keep hb' (λ_ h=>h) (λ_ _=>rfl) h3 (λ_=>rfl) g2,g2.mono A0⟩
  ·grind
def RW.set {w':aO}{k:aC}{b nb:AB}(hW:RW G w0 Z0 Z β H w) (hk:H[k]? =ah b) (hl:live β k b) (hp:b.p=X) (hnp:nb.p=X) (hok:okB (M H) nb)
  (hsz:w'.heap.size=w.heap.size) (hos:w'.os=w.os/\w'.tape=w.tape/\w'.output=w.output) (hne:∀j,j≠(β k).b->w'.heap[j]? =w.heap[j]?) (hB:Bb β Z w' k nb):RW G w0 Z0 Z β (H.set k nb) w':=by
 have hw:∀b',Z b'->w'.heap[b']? =w.heap[b']? :=λb' hz=>hne b' λe=>hW.Cr k b hk hl hp<|e▸hz
 have old:∀i bi,(H.set k nb)[i]? =ah bi->(i=k/\bi=nb)\/(i≠k/\H[i]? =ah bi):=λi bi h=>by
  rw [IY] at h;split at h
  ·rename_i e
   grind
  ·grind
 refine ⟨?_,λb' hz=>aQX,hW.Et,λi bi hi li pi=>?_,λi bi hi li pi=>?_,λi bi hi li=>?_,λi j bi bj hi hj li lj pi e=>?_,λi bi hi=>?_,hW.Cy.mono (λ_ h=>h) hw,λp hp=>⟨R.mono (n:=M H) (λ_ _=>rfl) (λ_ h=>h) hw _ _ (hW.gh p hp).2 (hW.gh p hp).1,aQY⟩,λD hD=>⟨(hW.Cv D hD).1,cG⟩⟩
 ·refine hW.below.trans ⟨hos.1,hos.2.1,hos.2.2,na hsz.symm,λi hi=>hne i ?_⟩
  have:=hW.low k b hk hl
  omega
 ·rcases old i bi hi with ⟨rfl,rfl⟩ |⟨h1,h2⟩
  ·exact hW.Cr _ b hk hl hp
  ·exact hW.Cr i bi h2 li pi
 ·rcases old i bi hi with ⟨rfl,rfl⟩ |⟨h1,h2⟩
  ·grind
  ·exact hW.GV i bi h2 li pi
 ·rcases old i bi hi with ⟨rfl,rfl⟩ |⟨h1,h2⟩
  ·exact hW.low _ b hk hl
  ·exact hW.low i bi h2 li
 ·rcases old i bi hi with ⟨rfl,rfl⟩ |⟨h1,h2⟩
  ·rcases old j bj hj with ⟨rfl,rfl⟩ |⟨g1,g2⟩
   ·rfl
   ·exact hW.inj _ j b bj hk g2 hl lj hp e
  ·rcases old j bj hj with ⟨rfl,rfl⟩ |⟨g1,g2⟩
   ·exact hW.inj i _ bi b h2 hk li hl pi e
   ·exact hW.inj i j bi bj h2 g2 li lj pi e
 ·rw [C4]
  rcases old i bi hi with ⟨rfl,rfl⟩ |⟨h1,h2⟩
  ·grind
  ·obtain ⟨g1,g2⟩:=hW.blk i bi h2
   refine ⟨g1.keep (λ_ _=>rfl) (λ_ h=>h) hw rfl (λli=>hne _ λe=>?_) g2,g2⟩
   exact h1 (hW.inj k i b bi hk h2 hl li hp e.symm).symm
def RW.alloc {cs:aD}{vs:aX}{t:aS}(hW:RW G w0 Z0 Z β H w) (hr:RL β Z w cs vs.toList) (hk:AU (M H) cs):
  ∃β',(∀k,k<M H->β' k=β k)/\(β'<|M H).b=w.heap.size/\RW G w0 Z0 Z β' (H++[⟨cs,t,.cl,X⟩]) (w.alloc<|.cells vs t)/\(∀b,Z b->(w.alloc<|.cells vs t).heap[b]? =w.heap[b]?):=by
 have hbw:Below w.heap.size w (w.alloc<|.cells vs t):=(Below.refl _ _).alloc (Au _) _
 have hw:∀b,Z b->(w.alloc<|.cells vs t).heap[b]? =w.heap[b]? :=λb hz=>EJ hbw<|hW.Bc b hz
 obtain ⟨β',h1,h2,h3⟩:=(hW.same hbw).Kr (ℓ:=⟨w.heap.size,0,aj⟩) (nb:=⟨cs,t,.cl,X⟩) rfl ⟨AU.mono A0 _ hk,ak⟩ (λ_=>⟨λhz=>cV,hW.below.size,λj bj hj lj e=>T4⟩) (λβ' h1 h2=>by
  simp only [Bb,h2];refine ⟨vs,?_,RL.mono h1 (λ_ h=>h) hw _ _ hk hr⟩
  show (w.heap.push _)[w.heap.size]? =_
  simp)
 grind
def Dg (β:aC->aXS) (H:aG) (ks:aH):aH:=(ks.filter λk=>@decide (∃b,H[k]? =ah b/\live β k b/\b.p=X)<|Classical.propDecidable _).map λk=>(β k).b
def fY {ks:aH}{x:aC}:x∈Dg β H ks↔∃k b,k∈ks/\H[k]? =ah b/\live β k b/\b.p=X/\x=(β k).b:=by
 unfold Dg;simp only [FP,Ck]
 constructor
 ·rintro ⟨k,⟨h1,h2⟩,h3⟩
  grind
 ·rintro ⟨k,b,h1,h2,h3,h4,h5⟩
  grind
def Td {k:aC}{b:AB}(hb:H[k]? =ah b) (hl:live β k b) (hp:b.p=X):(β k).b∈Dg β H [k]:=fY.2 ⟨k,b,AJ,hb,hl,hp,rfl⟩
end Go.Sx
namespace Go.Sx
open Go.Proofs.YtpdndmobphnjcaaGreatDoor
open Go Go.RowKit
variable {P : Program} {G : BA} {Γ : Specs} {β : Nat -> Loc} {Z : Nat -> Prop} {Z0 : Gz} {w w0 : World} {F : List LV} {H : List AB} {a : Act}
def RD.cells {Z Z':aC->Prop}{w w':aO}(hZ:∀b,Z b->Z' b) (hw:∀b,Z b->w'.heap[b]? =w.heap[b]?):
  ∀(t:Ty) (d:t.D) (b o:aC),(∀j,j<t.n->w'.cell? ⟨b,o+j,aj⟩=w.cell? ⟨b,o+j,aj⟩)->RD Z w t d b o->RD Z' w' t d b o
 | .int _,_,b,o,hb,h=>VN
 | .bool,_,b,o,hb,h=>VN
 | .str,_,b,o,hb,h=>VN
 | .sl e,l,b,o,hb,h=>by
  exact aOD
 | .pair x y,d,b,o,hb,h=>by
  refine ⟨RD.cells hZ hw x d.1 b o (λj hj=>hb j oV) h.1,RD.cells hZ hw y d.2 b _ (λj hj=>?_) h.2⟩
  have:=hb (x.n+j) oV
  grind
def getD_lt {l:aD}{j:aC}(h:j<M l):l[j]? =ah (l.getD j .junk):=A8
def gA {n:aC}{l:aD}(h:AU n l) (j:aC):okV n (l.getD j .junk):=by
 cases hq:l[j]? with
 |none=>simp [List.getD,hq,okV]
 |some q=>simp only [List.getD,hq,nG];exact AU.get _ _ h hq
def getD_at {e:Ty}{l:List e.D}{i:aC}(h:i<M l):l[i]? =ah (l.getD i e.dflt):=A8
def tH {b off n:aC}{L:aD}(hL:M L=n) (hc:∀q,q<n->∃z,w.cell? ⟨b,off+q,aj⟩=ah z/\R β Z w (L.getD q .junk) z):
  ∃zs:aT,M zs=n/\RL β Z w L zs/\∀w':aO,w'.heap[b]? =w.heap[b]? ->(loadCells ⟨b,off,aj⟩ n).run P w'=.ok zs.toArray w':=by
 have hch:∀j,∃z,j<n->w.cell? ⟨b,off+j,aj⟩=ah z/\R β Z w (L.getD j .junk) z:=λj=>by
  by_cases hj:j<n
  ·grind
  ·exact ⟨undef,λh=>absurd h hj⟩
 obtain ⟨g,hg⟩:=zT hch;refine ⟨(au n).map g,AJ,RL.Cm A8 λi x hx=>?_,λw' hw'=>?_⟩
 ·have hi:i<n:=A8
  refine ⟨g i,A8,?_⟩
  grind
 ·have hld:=run_loadCells (P:=P) w' ⟨b,off,aj⟩ n g (λj hj=>by rw [addr_add,Qc (w:=w) (w':=w') hw'];exact (hg j hj).1)
  grind
def qh {t:aS}{x lv:LV}{y:aV}(hW:RW G w0 Z0 Z β H w) (h:(FX P H t x).all λz=>z=lv) (hr:R β Z w x y) (hk:okV (M H) x):
  ∃z,(∀w',(∀b,(Z b\/∃k,k∈owns x/\b=(β k).b)->w'.heap[b]? =w.heap[b]?)->(Instr.loadAt t y).run P w'=.ok z w')/\R β Z w lv z/\okV (M H) lv:=by
 have ownCl:∀(k:aC) (b:AB),H[k]? =ah b->b.E5=U->∃cs,w.heap[(β k).b]? =ah (.cells cs b.t (0,0))/\RL β Z w b.c cs.toList/\AU (M H) b.c:=λk b hb hc=>by
  obtain ⟨h1,h2⟩:=hW.blk k b hb;unfold Bb at h1;unfold AB.E5 at hc;split at hc
  ·rename_i hk'
   simp only [hk'] at h1;obtain ⟨cs,h3,h4⟩:=h1;exact ⟨cs,h3,h4,h2.1⟩
  ·cases hc
 have vecAt:∀(k es i:aC) (c:aD) (t:aS) (e:Ty) (l:List e.D) (p:aM),H[k]? =ah ⟨c,t,.vec e l,p⟩->(β k).cap≠aj->e.n=es->i<M l->∀q,q<es->∃z,w.cell? ⟨(β k).b,(β k).o+i*es+q,aj⟩=ah z/\R β Z w ((Bx e<|l.getD i e.dflt).getD q .junk) z:=λk es i c t e l p hb hcap hes hi q hq=>by
  have h1:=(hW.blk k _ hb).1
  simp only [Bb] at h1;split at h1
  ·exact aA5
  ·obtain ⟨cs,_,_,_,h4⟩:=h1
   have h5:=h4 i _<|getD_at hi
   subst hes;exact To e _ _ _ h5 q _<|getD_lt (by rw [KO];exact hq)
 unfold FX at h;split at h
 ·rename_i n hag hsz
  have e1:=λw=>eW hag w
  have e2:=λw=>run_sizeOf hsz w
  split at h
  ·rename_i k off
   split at h
   ·rename_i b hb
    split at h
    ·rename_i hle
     simp only [T.all] at h;obtain ⟨cs,hc,hrl,hok⟩:=ownCl k b hb hle.1;simp only [R] at hr
     have hlen:=RL.length hrl
     have hn:M ((b.c.drop off).take n)=n:=DK
     obtain ⟨zs,f1,f2,f3⟩:=tH (P:=P) (β:=β) (Z:=Z) (w:=w) (b:=(β k).b) (off:=off) (L:=(b.c.drop off).take n) hn (λq hq=>by
      have hlt:off+q<M b.c:=A0
      obtain ⟨z,h1,h2⟩:=RL.get _ _ hrl<|Di hlt;refine ⟨z,aQ7,?_⟩
      have:((b.c.drop off).take n).getD q .junk=b.c[off+q]:=by
       grind
      rw [this];exact h2)
     refine ⟨.agg zs.toArray,λw' hw'=>?_,?_,?_⟩
     ·have:=f3 w' (hw' (β k).b<|.inr ⟨k,J3,rfl⟩)
      simp [Instr.loadAt,Instr.sureAddr,hr,loadVar,e1,e2,this]
     ·exact zw
     ·rw [<-h];exact Ql<|hok.take_drop off n
    ·cases h
   ·cases h
  ·rename_i m f
   split at h
   ·rename_i hle
    simp only [T.all] at h;simp only [R] at hr;obtain ⟨b,off,e3,hz,e4⟩:=hr;simp only [okV] at hk
    obtain ⟨zs,f1,f2,f3⟩:=tH (P:=P) (β:=β) (Z:=Z) (w:=w) (b:=b) (off:=off) (L:=(au n).map f) (n:=n) AJ (λq hq=>by
     obtain ⟨z,h1,h2⟩:=e4 q A0;exact ⟨z,h1,by simpa [List.getD,hq] using h2⟩)
    refine ⟨.agg zs.toArray,λw' hw'=>?_,?_,?_⟩
    ·have:=f3 w' (hw' b<|.inl hz)
     simp [Instr.loadAt,Instr.sureAddr,e3,loadVar,e1,e2,this]
    ·exact zw
    ·rw [<-h]
     refine Ql<|AU.Cm λi x hx=>?_
     have hi:i<n:=by have:=(EI.1 hx).1;simpa using this
     have:x=f i:=by simpa [hi] using hx.symm
     rw [this];exact okV.mono (N9 _) _<|hk i
   ·cases h
  ·rename_i k es i j
   split at h
   ·rename_i c t' e l p hb
    split at h
    ·rename_i hle
     simp only [T.all] at h;obtain ⟨hi,h⟩:=h;simp only [R] at hr
     have hva:=vecAt k es i c t' e l p hb hr.1 hle.1 hi
     have hlen:M (Bx e<|l.getD i e.dflt)=es:=by rw [KO];exact hle.1
     obtain ⟨zs,f1,f2,f3⟩:=tH (P:=P) (β:=β) (Z:=Z) (w:=w) (b:=(β k).b) (off:=(β k).o+i*es+j) (L:=((Bx e<|l.getD i e.dflt).drop j).take n) (n:=n) (by rw [MG,FQ,hlen];omega) (λq hq=>by
      obtain ⟨z,h1,h2⟩:=hva (j+q) A0;refine ⟨z,by rw [Hw _ j q];exact h1,?_⟩
      have:(((Bx e<|l.getD i e.dflt).drop j).take n).getD q .junk=(Bx e<|l.getD i e.dflt).getD (j+q) .junk:=by
       generalize Bx e (l.getD i e.dflt)=L
       grind
      rw [this];exact h2)
     refine ⟨.agg zs.toArray,λw' hw'=>?_,?_,?_⟩
     ·have:=f3 w' (hw' (β k).b<|.inr ⟨k,J3,rfl⟩)
      simp [Instr.loadAt,Instr.sureAddr,hr.2,loadVar,e1,e2,this]
     ·exact zw
     ·rw [<-h];exact Ql<|(Na _ e _).take_drop j n
    ·cases h
   ·cases h
  ·cases h
 ·rename_i _ hag
  have e1:=λw=>eW hag w
  split at h
  ·rename_i k off
   split at h
   ·rename_i b hb
    split at h
    ·rename_i hcl
     split at h
     ·rename_i z hz
      simp only [T.all] at h;obtain ⟨cs,hc,hrl,hok⟩:=ownCl k b hb hcl;simp only [R] at hr;obtain ⟨q,h1,h2⟩:=RL.get _ _ hrl hz;refine ⟨q,λw' hw'=>?_,?_,?_⟩
      ·have:w'.cell? ⟨(β k).b,off,aj⟩=ah q:=by rw [cell_of_block (by rw [hw' (β k).b<|.inr ⟨k,J3,rfl⟩];exact hc)];simpa using h1
       simp [Instr.loadAt,Instr.sureAddr,hr,loadVar,e1,this]
      ·rw [<-h];exact h2
      ·rw [<-h];exact AU.get _ _ hok hz
     ·cases h
    ·cases h
   ·cases h
  ·rename_i m f
   split at h
   ·rename_i hm
    simp only [T.all] at h;simp only [R] at hr;obtain ⟨b,off,e3,hz,e4⟩:=hr;obtain ⟨z,h1,h2⟩:=e4 0 hm;refine ⟨z,λw' hw'=>?_,?_,?_⟩
    ·have:w'.cell? ⟨b,off,aj⟩=ah z:=by rw [Qc (w:=w) (w':=w')<|hw' b<|.inl hz];simpa using h1
     simp [Instr.loadAt,Instr.sureAddr,e3,loadVar,e1,this]
    ·rw [<-h];exact h2
    ·rw [<-h];simp only [okV] at hk;exact okV.mono (N9 _) _<|hk 0
   ·cases h
  ·rename_i k es i j
   split at h
   ·rename_i c t' e l p hb
    split at h
    ·rename_i hes
     simp only [T.all] at h;obtain ⟨hi,h⟩:=h;split at h
     ·rename_i q hq
      simp only [T.all] at h;simp only [R] at hr
      have hj:j<es:=by
       have:=(EI.1 hq).1
       rw [KO] at this;omega
      obtain ⟨z,h1,h2⟩:=vecAt k es i c t' e l p hb hr.1 hes hi j hj
      have hqq:(Bx e<|l.getD i e.dflt).getD j .junk=q:=Ej<|(getD_lt (EI.1 hq).1).symm.trans hq
      rw [hqq] at h2;refine ⟨z,λw' hw'=>?_,?_,?_⟩
      ·have:w'.cell? ⟨(β k).b,(β k).o+i*es+j,aj⟩=ah z:=by rw [Qc (w:=w) (w':=w')<|hw' (β k).b<|.inr ⟨k,J3,rfl⟩];exact h1
       simp [Instr.loadAt,Instr.sureAddr,hr.2,loadVar,e1,this]
      ·rw [<-h];exact h2
      ·rw [<-h];exact AU.get _ _ (Na _ e _) hq
     ·cases h
    ·cases h
   ·cases h
  ·cases h
 ·cases h
end Go.Sx
namespace Go.Sx
open Go.Proofs.YtpdndmobphnjcaaGreatDoor
open Go Go.RowKit
variable {P : Program} {G : BA} {Γ : Specs} {β : Nat -> Loc} {Z : Nat -> Prop} {Z0 : Gz} {w w0 : World} {F : List LV} {H : List AB} {a : Act}
def tB {z:aV}(h:K6 z=U):z.oneCell'=true:=by cases z<;>first|rfl|(simp [K6] at h)
def aEk (w:aO) (g:aC) (cs:aX) (k:aC) (h:k≠g):(w.setRow g cs).heap[k]? =w.heap[k]? :=by
 simp only [World.setRow,Array.getElem?_modify]
 grind
def RL.app:∀ {a b:aD}{c d:aT},RL β Z w a c->RL β Z w b d->RL β Z w (a++b) (c++d)
 | [],_,_,_,h,h'=>by simp only [RL] at h;subst h;simpa using h'
 |x::xs,_,_,d,h,h'=>by
  obtain ⟨y,zs,rfl,h3,h4⟩:=h;exact ⟨y,zs++d,rfl,h3,RL.app h4 h'⟩
def RL.drop {l:aD}{ys:aT}(h:RL β Z w l ys) (n:aC):RL β Z w (l.drop n) (ys.drop n):=by
 refine RL.Cm (by simp [RL.length h]) λi z hz=>?_
 rw [FR] at hz|-;exact RL.get _ _ h hz
def RL.take {l:aD}{ys:aT}(h:RL β Z w l ys) (n:aC):RL β Z w (l.take n) (ys.take n):=by simpa using h.take_drop 0 n
def RL.setAt {l cs:aD}{ys zs:aT}(h1:RL β Z w l ys) (h2:RL β Z w cs zs) (off:aC):RL β Z w (setAt l off cs) (ys.take off++zs++ys.drop (off+M zs)):=by
 have e2:=RL.length h2
 rw [e2];exact RL.app (RL.app (h1.take off) h2)<|h1.drop _
def AU.append {n:aC}:∀ {a b:aD},AU n a->AU n b->AU n (a++b)
 | [],_,_,h=>h
 |_::_,_,h,h'=>⟨h.1,AU.append h.2 h'⟩
def AU.drop {n:aC}{l:aD}(h:AU n l) (m:aC):AU n (l.drop m):=by
 refine AU.Cm λi x hx=>?_
 rw [FR] at hx;exact AU.get _ _ h hx
def AU.setAt {n:aC}{l cs:aD}(h1:AU n l) (h2:AU n cs) (off:aC):AU n (setAt l off cs):=by
 refine AU.append (AU.append ?_ h2)<|h1.drop _
 have:=h1.take_drop 0 off;simpa using this
def s8 {α:Type}{f:LV->Option α}{l:aD}{d:α}(h:hd1 f l=ah d):∃x,l=[x]/\f x=ah d:=by
 unfold hd1 at h;exact o5
def axm {a b:Ty}(h:a=b) (l:List a.D) {y:aV}:R β Z w (.xl b<|Kq h l) y↔R β Z w (.xl a l) y:=by subst h;rfl
def xJ {e:Ty}{x:LV}{l:List e.D}{y:aV}(h:N3 e x=ah l) (hr:R β Z w x y):R β Z w (.xl e l) y:=by
 unfold N3 at h;split at h
 ·split at h
  ·rename_i q h'
   simp only [Aj] at h;subst h;exact (axm q _).2 hr
  ·cases h
 ·simp only [Aj] at h
  simp only [R] at hr|-
  grind
 ·cases h
def xL {Z':aC->Prop}{w':aO}(hZ:∀b,Z b->Z' b) (hw:∀b,Z b->w'.heap[b]? =w.heap[b]?):∀(t:Ty) (cs:aD) (d:t.D) (ys:aT),KB t cs=ah d->RL β Z w cs ys->∀(b o:aC),(∀(j:aC) v,ys[j]? =ah v->w'.cell? ⟨b,o+j,aj⟩=ah v)->RD Z' w' t d b o:=by
 have one:∀ {l:aD} {ys:aT} {x:LV},l=[x]->RL β Z w l ys->∀ {b o:aC},(∀(j:aC) v,ys[j]? =ah v->w'.cell? ⟨b,o+j,aj⟩=ah v)->∃y,R β Z w x y/\w'.cell? ⟨b,o,aj⟩=ah y:=by
  intro l ys x hl hr b o hc;subst hl;simp only [RL] at hr;obtain ⟨y,zs,rfl,h1,_⟩:=hr;exact ⟨y,h1,hc 0 y rfl⟩
 intro t
 induction t with
 | int k=>
  intro cs d ys h hr b o hc;obtain ⟨x,hl,hx⟩:=s8 h;obtain ⟨y,h1,h2⟩:=one hl hr hc;simp only [RD];rw [h2];unfold ya at hx;split at hx
  ·exact aOt
  ·exact aOt
  ·cases hx
 |bool=>
  intro cs d ys h hr b o hc;obtain ⟨x,hl,hx⟩:=s8 h;obtain ⟨y,h1,h2⟩:=one hl hr hc;simp only [RD];rw [h2];unfold yb at hx;split at hx
  ·exact zk
  ·exact zk
  ·cases hx
 |str=>
  intro cs d ys h hr b o hc;obtain ⟨x,hl,hx⟩:=s8 h;obtain ⟨y,h1,h2⟩:=one hl hr hc;simp only [RD];rw [h2];unfold yZ at hx;split at hx
  ·exact zk
  ·cases hx
 |sl e _=>
  intro cs d ys h hr b o hc;obtain ⟨x,hl,hx⟩:=s8 h;obtain ⟨y,h1,h2⟩:=one hl hr hc
  have h3:=xJ hx h1
  simp only [R] at h3;obtain ⟨a,cap,g1,g2,g3⟩:=h3;simp only [RD];refine ⟨a,cap,by rw [h2,g1],g2,λhn=>?_⟩
  obtain ⟨b',o',g4,g5,g6⟩:=g3 hn;exact ⟨b',o',g4,hZ _ g5,λi d hd=>RD.mono hZ hw e d b' _ g5<|g6 i d hd⟩
 | pair p q ihp ihq=>
  intro cs d ys h hr b o hc;simp only [KB] at h;split at h
  ·rename_i x y hx hy
   simp only [Aj] at h;subst h;simp only [RD];refine ⟨ihp _ x _ hx (hr.take p.n) b o λj v hv=>?_,ihq _ y _ hy (hr.drop p.n) b (o+p.n) λj v hv=>?_⟩
   ·exact aPb
   ·rw [FR] at hv
    grind
  ·cases h
def adp {t:aS} {x q:LV} {y z:aV} {H':aG} (hW:RW G w0 Z0 Z β H w) (h:(Th P H t x q).all λr=>r=H') (hr:R β Z w x y) (hq:R β Z w q z) (hqk:okV (M H) q):
  ∃w',(Instr.storeAt t y z).run P w=.ok () w'/\RW G w0 Z0 Z β H' w'/\M H'=M H/\(∀b,Z b->w'.heap[b]? =w.heap[b]?)/\De (Dg β H<|owns x) w w':=by
 unfold Th at h;split at h
 ·rename_i n cs hsz hcs
  have e2:=λw=>run_sizeOf hsz w
  obtain ⟨c1,c2⟩:=sB hcs hq
  have c3:=rJ hcs hqk
  have hlen2:=RL.length c1
  split at h
  ·rename_i k off
   split at h
   ·rename_i b hb
    split at h
    ·rename_i hle
     obtain ⟨hcl,hbp,hl1,hl2⟩:=hle;simp only [T.all] at h
     have hbk:b.k=.cl:=by
      unfold AB.E5 at hcl;split at hcl
      ·assumption
      ·cases hcl
     have hlive:live β k b:=by unfold live;rw [hbk];trivial
     obtain ⟨h1,h2⟩:=hW.blk k b hb;unfold Bb at h1;simp only [hbk] at h1;obtain ⟨cur,hc,hrl⟩:=h1
     have hlen:=RL.length hrl
     simp only [R] at hr
     have hst:=yy P (β k).b off b.t z.cells.toList 0 cur w hc (by simp at hlen;omega) λv hv=>tB<|c2 v hv
     have e3:z.cells.size=n:=by simp at hlen2;omega
     have hne:∀j,j≠(β k).b->(w.setRow (β k).b (cur.toList.take (off+0)++z.cells.toList++cur.toList.drop (off+0+M z.cells.toList)).toArray).heap[j]? =w.heap[j]? :=λj hj=>aEk w _ _ _ hj
     refine ⟨w.setRow (β k).b (cur.toList.take (off+0)++z.cells.toList++cur.toList.drop (off+0+M z.cells.toList)).toArray,by simp [Instr.storeAt,Instr.sureAddr,hr,storeVar,e2,e3,hst],?_,by rw [<-h];simp,λb' hz=>hne b' λe=>hW.Cr k b hb hlive hbp<|e▸hz,⟨rfl,rfl,rfl,VU,λi _ hi=>hne i λe=>hi<|e▸Td hb hlive hbp⟩⟩
     rw [<-h];refine hW.set hb hlive hbp hbp ⟨AU.setAt h2.1 c3 off,by simp only [hbk]⟩ VU ⟨rfl,rfl,rfl⟩ hne ?_
     unfold Bb;simp only [hbk];refine ⟨_,setRow_heap w (β k).b cur _ b.t _ hc,?_⟩;refine RL.mono (n:=M H) (λ_ _=>rfl) (λ_ h=>h) (λb' hz=>hne b' λe=>hW.Cr k b hb hlive hbp<|e▸hz) _ _ (AU.setAt h2.1 c3 off) ?_
     have:=RL.setAt (β:=β) (Z:=Z) (w:=w) hrl c1 off
     exact QW
    ·cases h
   ·cases h
  ·rename_i k es i j
   split at h
   ·rename_i c0 bt e l hb
    split at h
    ·rename_i hle
     obtain ⟨hes,hl1,hl2⟩:=hle;simp only [T.all] at h;obtain ⟨hi,h⟩:=h;split at h
     ·rename_i d hd
      simp only [T.all] at h;simp only [R] at hr;obtain ⟨hcap,hy⟩:=hr
      have hlive:live β k ⟨c0,bt,.vec e l,X⟩:=hcap
      obtain ⟨h1,h2⟩:=hW.blk k _ hb;simp only [Bb] at h1;split at h1
      ·exact aA5
      ·rename_i c hc
       obtain ⟨cur,g1,g2,g3,g4⟩:=h1;subst hes
       have hmul:i*e.n+e.n<=c*e.n:=by
        have:=NA e.n (show i+1<=c by omega)
        rwa [GM,Sw] at this
       have e3:z.cells.size=n:=by simp at hlen2;omega
       have hzl:M z.cells.toList=n:=by simpa using e3
       have hst:=yy P (β k).b ((β k).o+i*e.n+j) bt z.cells.toList 0 cur w g1 (by rw [hzl];omega) λv hv=>tB<|c2 v hv
       simp only [bF] at hst;generalize hnew:(cur.toList.take ((β k).o+i*e.n+j)++z.cells.toList++cur.toList.drop ((β k).o+i*e.n+j+M z.cells.toList)).toArray=new at hst
       have hnget:∀p,new[p]? =if p<(β k).o+i*e.n+j then cur[p]? else if p<(β k).o+i*e.n+j+n then z.cells.toList[p-((β k).o+i*e.n+j)]? else cur[p]? :=λp=>by
        rw [<-hnew]
        by_cases q1:p<(β k).o+i*e.n+j
        ·exact aOQ
        ·rw [AE q1]
         simp only [Zt]
         by_cases q2:p<(β k).o+i*e.n+j+n
         ·exact aOn
         ·rw [AE q2,Gp DK,FR]
          have:(β k).o+i*e.n+j+M z.cells.toList+(p-M (cur.toList.take ((β k).o+i*e.n+j)++z.cells.toList))=p:=by
           simp
           omega
          rw [this]
          simp
       have hnsz:new.size=cur.size:=by
        rw [<-hnew]
        simp
        omega
       have hne:∀q,q≠(β k).b->(w.setRow (β k).b new).heap[q]? =w.heap[q]? :=λq hq=>aEk w _ _ _ hq
       have hZw:∀b',Z b'->(w.setRow (β k).b new).heap[b']? =w.heap[b']? :=λb' hz=>hne b' λe=>hW.Cr k _ hb hlive rfl<|e▸hz
       have hblk:=setRow_heap w (β k).b cur new bt _ g1
       refine ⟨w.setRow (β k).b new,by simp [Instr.storeAt,Instr.sureAddr,hy,storeVar,e2,e3,hst],?_,by rw [<-h];simp,hZw,⟨rfl,rfl,rfl,VU,λq _ hq=>hne q λe=>hq<|e▸Td hb hlive rfl⟩⟩
       rw [<-h];refine hW.set hb hlive rfl rfl ⟨ak,ak⟩ VU ⟨rfl,rfl,rfl⟩ hne ?_;simp only [Bb,hc];refine ⟨new,hblk,A0,by rw [C4];exact g3,λi' d' hd'=>?_⟩
       by_cases hii:i'=i
       ·subst hii
        have hdd:d'=d:=by
         rw [List.getElem?_set_self<|by exact hi] at hd'
         simpa using hd'.symm
        subst hdd
        have hcells:∃ys,RL β Z w (Bx e<|l.getD i' e.dflt) ys/\∀p,ys[p]? =if p<e.n then cur[(β k).o+i'*e.n+p]? else none:=by
         have hrd:=g4 i' _<|getD_at hi
         refine ⟨((cur.toList.drop<|(β k).o+i'*e.n).take e.n),RL.Cm ?_ λp x hx=>?_,λp=>?_⟩
         ·rw [KO];simp;omega
         ·obtain ⟨v,q1,q2⟩:=To (β:=β) e _ _ _ hrd p x hx
          have hp:p<e.n:=by have:=(EI.1 hx).1;rwa [KO] at this
          refine ⟨v,?_,q2⟩;rw [cell_of_block g1] at q1;rw [LN,AD hp,FR]
          simpa using q1
         ·rw [LN,FR]
          simp
        obtain ⟨ys,y1,y2⟩:=hcells
        have hset:=RL.setAt y1 c1 j
        refine xL (λ_ h=>h) hZw e _ d' _ hd hset _ _ λp v hv=>?_
        rw [cell_of_block hblk,hnget]
        have hyl:M ys=e.n:=by have:=RL.length y1;rw [KO] at this;exact this
        by_cases p1:p<j
        ·rw [AD A0]
         rw [Cw,I1 DK,aNX p1,y2] at hv;rw [AD A0] at hv;exact hv
        ·by_cases p2:p<j+n
         ·rw [AE A0,AD A0]
          rw [I1 DK,Gp DK] at hv;rw [<-hv]
          congr 1
          simp
          omega
         ·rw [AE A0,AE A0]
          rw [Gp DK,FR,y2] at hv;split at hv
          ·rw [<-hv]
           congr 1
           simp
           omega
          ·cases hv
       ·rw [Zq<|KL hii] at hd'
        refine RD.cells (λ_ h=>h) hZw e d' _ _ (λp hp=>?_)<|g4 i' d' hd'
        rw [cell_of_block hblk,cell_of_block g1,hnget]
        have hsep:i'*e.n+e.n<=i*e.n\/i*e.n+e.n<=i'*e.n:=by
         rcases nZ i' i with hlt|hge
         ·left
          have:=NA e.n (show i'+1<=i by omega)
          rwa [GM,Sw] at this
         ·right
          have:=NA e.n (show i+1<=i' by omega)
          rwa [GM,Sw] at this
        split
        ·rfl
        ·rw [AE A0]
     ·cases h
    ·cases h
   ·cases h
  ·cases h
 ·cases h
end Go.Sx
namespace Go.Sx
open Go.Proofs.YtpdndmobphnjcaaGreatDoor
open Go Go.RowKit
variable {P : Program} {G : BA} {Γ : Specs} {β : Nat -> Loc} {Z : Nat -> Prop} {Z0 : Gz} {w w0 : World} {F : List LV} {H : List AB} {a : Act}
def RD.move {Z Z':aC->Prop}{w w':aO}(hZ:∀b,Z b->Z' b) (hw:∀b,Z b->w'.heap[b]? =w.heap[b]?):
  ∀(t:Ty) (d:t.D) (b o b' o':aC),(∀j,j<t.n->w'.cell? ⟨b',o'+j,aj⟩=w.cell? ⟨b,o+j,aj⟩)->RD Z w t d b o->RD Z' w' t d b' o'
 | .int _,_,b,o,b',o',hb,h=>VN
 | .bool,_,b,o,b',o',hb,h=>VN
 | .str,_,b,o,b',o',hb,h=>VN
 | .sl e,l,b,o,b',o',hb,h=>by
  exact aOD
 | .pair x y,d,b,o,b',o',hb,h=>by
  refine ⟨RD.move hZ hw x d.1 b o b' o' (λj hj=>hb j oV) h.1,RD.move hZ hw y d.2 b _ b' _ (λj hj=>?_) h.2⟩
  have:=hb (x.n+j) oV
  grind
def RD.one {Z:aC->Prop}{w:aO}:∀(t:Ty) (d:t.D) (b o:aC),RD Z w t d b o->∀j,j<t.n->∃v,w.cell? ⟨b,o+j,aj⟩=ah v/\K6 v=U
 | .int _,_,b,o,h,j,hj=>by
  exact zl
 | .bool,_,b,o,h,j,hj=>by
  exact zl
 | .str,_,b,o,h,j,hj=>by
  exact zl
 | .sl e,_,b,o,h,j,hj=>by
  simp only [Ty.n] at hj
  have:j=0:=A0
  subst this;obtain ⟨a,cap,h1,_⟩:=h;exact ⟨_,h1,rfl⟩
 | .pair x y,d,b,o,h,j,hj=>by
  simp only [Ty.n] at hj
  by_cases hx:j<x.n
  ·exact RD.one x d.1 b o h.1 j hx
  ·obtain ⟨v,h1,h2⟩:=RD.one y d.2 b (o+x.n) h.2 (j-x.n) A0
   grind
def Ty.n_pos:∀t:Ty,0<t.n
 | .int _=>cM
 | .bool=>cM
 | .str=>cM
 | .sl _=>cM
 | .pair a b=>by have:=Ty.n_pos a;simp only [Ty.n];omega
def aGN {e:Ty}{l:List e.D}{b o:aC}(h:∀(i:aC) (d:e.D),l[i]? =ah d->RD Z w e d b (o+i*e.n)):
  ∃vs:aT,M vs=M l*e.n/\(∀j,j<M l*e.n->w.cell? ⟨b,o+j,aj⟩=vs[j]?)/\(∀u∈vs,K6 u=U):=by
 have hp:=e.n_pos
 have hch:∀j,∃v,j<M l*e.n->w.cell? ⟨b,o+j,aj⟩=ah v/\K6 v=true:=λj=>by
  by_cases hj:j<M l*e.n
  ·have hi:=Nat.div_lt_of_lt_mul (by rw [Nat.mul_comm];exact hj)
   have hd:=h (j / e.n) _<|getD_at hi
   obtain ⟨v,h1,h2⟩:=RD.one e _ _ _ hd (j%e.n)<|Nat.mod_lt _ hp;refine ⟨v,λ_=>⟨?_,h2⟩⟩
   have:=Nat.div_add_mod j e.n
   grind
  ·exact ⟨undef,λh=>absurd h hj⟩
 obtain ⟨g,hg⟩:=zT hch;refine ⟨(au<|M l*e.n).map g,AJ,λj hj=>?_,λu hu=>?_⟩
 ·grind
 ·obtain ⟨j,hj,rfl⟩:=FP.1 hu
  grind
def aHK {Z':aC->Prop}{w':aO}(hZ:∀b,Z b->Z' b) (hw:∀b,Z b->w'.heap[b]? =w.heap[b]?) {e:Ty}{l:List e.D}{b o b' o':aC}(h:∀(i:aC) (d:e.D),l[i]? =ah d->RD Z w e d b (o+i*e.n)) {vs:aT}
  (hv:∀j,j<M l*e.n->w.cell? ⟨b,o+j,aj⟩=vs[j]?) (hc:∀j,j<M l*e.n->w'.cell? ⟨b',o'+j,aj⟩=vs[j]?):∀(i:aC) (d:e.D),l[i]? =ah d->RD Z' w' e d b' (o'+i*e.n):=λi d hd=>by
 have hi:=(EI.1 hd).1
 refine RD.move hZ hw e d b (o+i*e.n) b' (o'+i*e.n) (λj hj=>?_)<|h i d hd
 have hlt:i*e.n+j<M l*e.n:=by
  have:=NA e.n (show i+1<=M l by omega)
  rw [GM,Sw] at this;omega
 grind
def atP {e:Ty}{x:LV}{q:List e.D}{y:aV}(hW:RW G w0 Z0 Z β H w) (h:(FW H e x).all λz=>z=q) (hr:R β Z w x y):
  ∃a c,y=.slice a (M q) c/\(0<M q->∃b o,a=ah ⟨b,o,aj⟩/\∀(i:aC) (d:e.D),q[i]? =ah d->RD Z w e d b (o+i*e.n)):=by
 have gen:∀x,N3 e x=ah q->R β Z w x y->∃a c,y=.slice a (M q) c/\(0<M q->∃b o,a=ah ⟨b,o,aj⟩/\∀(i:aC) (d:e.D),q[i]? =ah d->RD Z w e d b (o+i*e.n)):=λx hx hr=>by
  have h1:=xJ hx hr
  obtain ⟨a,c,h1,_,h3⟩:=h1;refine ⟨a,c,h1,λhn=>?_⟩
  grind
 have hdx:∀ {x:LV},(match N3 e x with|some l=>(T.ok l:T<|List e.D) |none=> .no).all (λz=>z=q)->N3 e x=ah q:=λ{x} h=>by
  split at h
  ·rename_i hd;simp only [T.all] at h;rw [hd,h]
  ·cases h
 cases x with
 | os k es off n=>
  simp only [FW] at h;split at h
  ·rename_i c0 bt e' l pp hb
   split at h
   ·rename_i hes
    split at h
    ·rename_i he _
     subst he;simp only [T.all,Kq] at h;obtain ⟨hle,h⟩:=h;subst h
     have hlen:M ((l.drop off).take n)=n:=A8
     rw [hlen];simp only [R] at hr;split at hr
     ·obtain ⟨rfl,_,hy⟩:=hr
      grind
     ·rename_i c hc
      obtain ⟨h1,a,h2,h3⟩:=hr;refine ⟨ah a,c-off,h2,λhn=>?_⟩
      have h4:=(hW.blk k _ hb).1
      simp only [Bb,hc] at h4;obtain ⟨cs,g1,g2,g3,g4⟩:=h4;refine ⟨_,_,by rw [h3 A0],λi d hd=>?_⟩
      rw [LN] at hd;split at hd
      ·rw [FR] at hd
       have:=g4 (off+i) d hd
       rw [<-hes];rw [GM,<-Hw] at this;exact this
      ·cases hd
    ·cases h
   ·cases h
  ·cases h
 |v x=>simp only [FW] at h;exact gen _ (hdx h) hr
 |bl x=>simp only [FW] at h;exact gen _ (hdx h) hr
 |ki k n=>simp only [FW] at h;exact gen _ (hdx h) hr
 |own k off=>simp only [FW] at h;exact gen _ (hdx h) hr
 |agg l=>simp only [FW] at h;exact gen _ (hdx h) hr
 |AQ l=>simp only [FW] at h;exact gen _ (hdx h) hr
 |fn f l=>simp only [FW] at h;exact gen _ (hdx h) hr
 |fb f l=>simp only [FW] at h;exact gen _ (hdx h) hr
 |xq n f=>simp only [FW] at h;exact gen _ (hdx h) hr
 |xl e l=>simp only [FW] at h;exact gen _ (hdx h) hr
 |op k es i j=>simp only [FW] at h;exact gen _ (hdx h) hr
 |om k=>simp only [FW] at h;exact gen _ (hdx h) hr
 |mp kd ks vs=>simp only [FW] at h;exact gen _ (hdx h) hr
 |oc k es off n c=>simp only [FW] at h;exact gen _ (hdx h) hr
 |CU k=>simp only [FW] at h;exact gen _ (hdx h) hr
 |junk=>simp only [FW] at h;exact gen _ (hdx h) hr
def qn {t e:aS}{ty:Ty}{m FM:aC}(h:Pk P t=ah (e,ty,m,FM)):P.underlying t=ah (.slice e)/\ty.n=m/\∃i,P.info? e=ah i/\i.size=m/\i.bytes=FM:=by
 unfold Pk at h;split at h
 ·rename_i e' hu
  split at h
  ·rename_i ty' m' b' h1 h2 h3
   split at h
   ·rename_i hm
    simp only [Aj,Az] at h;obtain ⟨rfl,rfl,rfl,rfl⟩:=h;refine ⟨hu,hm.1,?_⟩;unfold HQ at h2;unfold aV5 at h3;cases hi:P.info? e' with
    |none=>simp [hi] at h2
    |some i=>simp [hi] at h2 h3;exact ⟨i,rfl,h2,h3⟩
   ·cases h
  ·cases h
 ·cases h
def aGg {e:Ty}{x:LV}{q:List e.D}{y:aV}{tx e':aS}(hk:P.underlying tx=ah (.slice e')) (hW:RW G w0 Z0 Z β H w) (h:(FW H e x).all λz=>z=q) (hr:R β Z w x y):
  ∃news:aT,Src P e.n tx y (M q) news w/\∀(Z':aC->Prop) (w':aO) (b' o':aC),(∀b,Z b->Z' b)->(∀b,Z b->w'.heap[b]? =w.heap[b]?)->(∀j,j<M news->w'.cell? ⟨b',o'+j,aj⟩=news[j]?)->∀(i:aC) (d:e.D),q[i]? =ah d->RD Z' w' e d b' (o'+i*e.n):=by
 obtain ⟨a,c,h1,h2⟩:=atP hW h hr
 by_cases hn:0<M q
 ·obtain ⟨b,o,h3,h4⟩:=h2 hn
  obtain ⟨vs,v1,v2,v3⟩:=aGN h4;refine ⟨vs,?_,λZ' w' b' o' hZ hw hc=>aHK hZ hw h4 v2 λj hj=>hc j A0⟩
  rw [h1,h3]
  exact Src.ofSlice w hk ⟨b,o,aj⟩ _ c vs v1 (λj u hu=>by
   have hj:j<M q*e.n:=A8
   rw [addr_add,v2 j hj,hu]) λu hu=>tB<|v3 u hu
 ·have hq:q=[]:=MH.1 A0
  subst hq;refine ⟨[],?_,λZ' w' b' o' hZ hw hc i d hd=>A8⟩
  rw [h1];cases a with
  |none=>exact Src.ofNil w hk c
  |some a=>exact Src.ofSlice w hk a 0 c [] AJ (λj u hu=>A8) λu hu=>by cases hu
def apt {ty:Ty}{z:aV}{d:ty.D}(hd:KB ty (z.cells.toList.map .v)=ah d) {w':aO}{b o:aC}(hc:∀(j:aC) v,z.cells.toList[j]? =ah v->w'.cell? ⟨b,o+j,aj⟩=ah v):RD Z w' ty d b o:=
 xL (Z:=Z) (w:=w') (β:=λ_=>default) (λ_ h=>h) (λ_ _=>rfl) ty _ d _ hd (V4 _) b o hc
def aeG {t:aS} {n c lv:LV} {vn vc:aV} {H':aG} (hW:RW G w0 Z0 Z β H w) (h:(UA P H t n c).all λq=>q=(lv,H')) (hn:R β Z w n vn) (hc:R β Z w c vc):
  ∃w' v,(Instr.makeSlice t vn vc).run P w=.ok v w'/\Below w.heap.size w w'/\∃β',(∀k,k<M H->β' k=β k)/\RW G w0 Z0 Z β' H' w'/\R β' Z w' lv v/\okV (M H') lv/\M H'=M H+1/\(β'<|M H).b=w.heap.size:=by
 unfold UA at h;split at h
 ·rename_i e ty m FM n' c' he hn' hc'
  obtain ⟨hu,htn,i,hi,him,hib⟩:=qn he;split at h
  ·rename_i z hz
   split at h
   ·rename_i d hd
    split at h
    ·rename_i hzs
     simp only [T.all] at h;obtain ⟨⟨h0,h1,h2,h3⟩,h4⟩:=h;obtain ⟨rfl,rfl⟩:=h4
     have hzi:i.zero=ah z:=aQC
     have hrun:=run_make (P:=P) w t e i z hu hi hzi J J n' c' h0 h1 (by rw [hib];simpa using h2) A0
     rw [Cs hn' hn,Cs hc' hc]
     have hbw:Below w.heap.size w (w.alloc<|.cells (madeCells z.cells<|c'.toNat*i.size) e):=(Below.refl _ _).alloc (Au _) _
     have hblk:(w.alloc<|.cells (madeCells z.cells<|c'.toNat*i.size) e).heap[w.heap.size]? =ah (.cells (madeCells z.cells<|c'.toNat*i.size) e (0,0)):=by
      exact cC
     obtain ⟨β',b1,b2,b3⟩:=(hW.same hbw).Kr (ℓ:=⟨w.heap.size,0,ah c'.toNat⟩) (nb:=⟨[],e,.vec ty<|aq n'.toNat d,X⟩) rfl ⟨ak,ak⟩
      (λ_=>⟨λhz=>cV,hW.below.size,λj bj hj lj e=>T4⟩) (λβ' g1 g2=>by
       simp only [Bb,g2];refine ⟨_,hblk,by simp [madeCells,htn,him],DK,λj d' hd'=>?_⟩
       have hj:j<n'.toNat:=A8
       have hdd:d'=d:=A8
       subst hdd;refine apt hd λp v hv=>?_
       have hp:p<m:=A8
       rw [cell_of_block hblk]
       have hlt:0+j*ty.n+p<c'.toNat*i.size:=by
        have:=NA m (show j+1<=c'.toNat by omega)
        rw [GM,Sw] at this;rw [htn,him];omega
       rw [madeCells]
       have hv':z.cells[p]? =ah v:=by simpa using hv
       rw [htn,F8] at hlt|-;simp only [Array.getElem?_map,Array.getElem?_range];rw [AD hlt];simp only [Jn,hzs,Nat.mul_comm j m,Nat.mul_add_mod,Nat.mod_eq_of_lt hp];rw [getElem!_def,hv'])
     exact ⟨_,_,hrun,hbw,β',b1,b3,by simp only [R,b2];exact ⟨DK,⟨w.heap.size,0,aj⟩,AJ,λ_=>AJ⟩,MN,AJ,Vf⟩
    ·cases h
   ·cases h
  ·cases h
 ·cases h
def adz {t:aS}{lv:LV}{H':aG}(hW:RW G w0 Z0 Z β H w) (h:(Tp P H t).all λq=>q=(lv,H')):
  ∃w' v,(Instr.buildSlice t 0 #[]).run P w=.ok v w'/\Below w.heap.size w w'/\∃β',(∀k,k<M H->β' k=β k)/\RW G w0 Z0 Z β' H' w'/\R β' Z w' lv v/\okV (M H') lv/\M H'=M H+1/\(β'<|M H).b=w.heap.size:=by
 unfold Tp at h;split at h
 ·rename_i e ty m FM he
  obtain ⟨hu,htn,i,hi,him,hib⟩:=qn he;obtain ⟨rfl,rfl⟩:=h
  have hbw:Below w.heap.size w (w.alloc<|.cells #[] e):=(Below.refl _ _).alloc (Au _) _
  have hblk:(w.alloc<|.cells #[] e).heap[w.heap.size]? =ah (.cells #[] e (0,0)):=by
   exact cC
  obtain ⟨β',b1,b2,b3⟩:=(hW.same hbw).Kr (ℓ:=⟨w.heap.size,0,ah 0⟩) (nb:=⟨[],e,.vec ty [],X⟩) rfl ⟨ak,ak⟩
   (λ_=>⟨λhz=>cV,hW.below.size,λj bj hj lj e=>T4⟩) (λβ' g1 g2=>by
    simp only [Bb,g2];exact ⟨_,hblk,AJ,AJ,λj d hd=>A8⟩)
  have hsz:HQ P e=ah m:=by unfold HQ;simp [hi,him]
  refine ⟨_,.slice (ah ⟨w.heap.size,0,aj⟩) 0 0,?_,hbw,β',b1,b3,by simp only [R,b2];exact ⟨AJ,⟨w.heap.size,0,aj⟩,rfl,λh=>A8⟩,MN,AJ,Vf⟩
  have e1:=λw=>run_sizeOf hsz w
  have n1:¬(0>2^24):=Ad
  have ha:∀f:aC->aV,(Array.range 0).map f=#[]:=λf=>AJ
  simp only [Instr.buildSlice,nD,Cj hu,mr,e1,nf,zO,newRow,AE n1,Bu,ha];rfl
 ·cases h
def RW.kill (hW:RW G w0 Z0 Z β H w) (k:aC) (e:aS):RW G w0 Z0 Z β (H.set k ⟨[],e,.dead,X⟩) w:=by
 have old:∀i bi,(H.set k ⟨[],e,.dead,X⟩)[i]? =ah bi->(¬live β i bi/\Bb β Z w i bi/\okB (M H) bi)\/H[i]? =ah bi:=λi bi h=>by
  rw [IY] at h;split at h
  ·rename_i e'
   split at h
   ·simp only [Aj] at h;subst h;exact .inl ⟨λh=>h,ak,ak,ak⟩
   ·cases h
  ·exact .inr h
 refine ⟨hW.below,hW.Bc,hW.Et,λi bi hi li pi=>?_,λi bi hi li pi=>?_,λi bi hi li=>?_,λi j bi bj hi hj li lj pi e=>?_,λi bi hi=>?_,hW.Cy,λp hp=>⟨(hW.gh p hp).1,aQY⟩,hW.Cv⟩
 ·rcases old i bi hi with h|h
  ·grind
  ·exact hW.Cr i bi h li pi
 ·rcases old i bi hi with h|h
  ·grind
  ·exact hW.GV i bi h li pi
 ·rcases old i bi hi with h|h
  ·grind
  ·exact hW.low i bi h li
 ·rcases old i bi hi with h|h
  ·grind
  ·rcases old j bj hj with h'|h'
   ·grind
   ·exact hW.inj i j bi bj h h' li lj pi e
 ·rw [C4]
  rcases old i bi hi with h|h
  ·grind
  ·exact hW.blk i bi h
def RW.loose {w':aO}{B:aC}(hW:RW G w0 Z0 Z β H w) (hB:w0.heap.size<=B) (hBZ:¬Z B) (hBo:∀j bj,H[j]? =ah bj->live β j bj->(β j).b≠B)
  (hsz:w'.heap.size=w.heap.size) (hos:w'.os=w.os/\w'.tape=w.tape/\w'.output=w.output) (hne:∀j,j≠B->w'.heap[j]? =w.heap[j]?):RW G w0 Z0 Z β H w':=by
 have hw:∀b',Z b'->w'.heap[b']? =w.heap[b']? :=λb' hz=>hne b' λe=>hBZ<|e▸hz
 refine ⟨?_,λb' hz=>aQX,hW.Et,hW.Cr,hW.GV,hW.low,hW.inj,λi bi hi=>?_,hW.Cy.mono (λ_ h=>h) hw,λp hp=>⟨R.mono (n:=M H) (λ_ _=>rfl) (λ_ h=>h) hw _ _ (hW.gh p hp).2 (hW.gh p hp).1,(hW.gh p hp).2⟩,λD hD=>⟨(hW.Cv D hD).1,cG⟩⟩
 ·exact hW.below.trans ⟨hos.1,hos.2.1,hos.2.2,na hsz.symm,λi hi=>hne i A0⟩
 ·obtain ⟨g1,g2⟩:=hW.blk i bi hi
  exact ⟨g1.keep (λ_ _=>rfl) (λ_ h=>h) hw rfl (λli=>hne _<|hBo i bi hi li) g2,g2⟩
def ada (z:aX) (n:aC):(Builtin.zeroCells z n).size=n*z.size:=by simp [Builtin.zeroCells]
def Back (Z:aC->Prop) (w:aO) (e:Ty) (l:List e.D) (vs:aT):Prop:=
 ∀(Z':aC->Prop) (w':aO) (b' o':aC),(∀b,Z b->Z' b)->(∀b,Z b->w'.heap[b]? =w.heap[b]?)->(∀j,j<M vs->w'.cell? ⟨b',o'+j,aj⟩=vs[j]?)->∀(i:aC) (d:e.D),l[i]? =ah d->RD Z' w' e d b' (o'+i*e.n)
def aG4 (hW:RW G w0 Z0 Z β H w) {t tx ty' e:aS}{i:TypeInfo}{z:aV}(hu:P.underlying t=ah (.slice e)) (hi:P.info? e=ah i) (hz:i.zero=ah z) {ty:Ty}(hts:i.size=ty.n) (hzs:z.cells.size=ty.n)
  {base:Option Addr} {sCap:aC} {olds:aT} {lo q:List ty.D} (hold:(Builtin.firstCells i.size (M lo)<|.slice base (M lo) sCap).run P w.drew=.ok olds.toArray w.drew) (hol:M olds=M lo*ty.n)
  (ob:Back Z w ty lo olds) {y:aV} {news:aT} (hs:Src P ty.n tx y (M q) news w) (nb:Back Z w ty q news) (hg:sCap<M lo+M q)
  (h63:((M lo+M q:aC):Y)<2^62) (hby:((M lo+M q:aC):Y)*i.bytes<=2^47):
  ∃w' v,(Builtin.append_ #[t,tx] ty' #[.slice base (M lo) sCap,y]).run P w=.ok v w'/\Below w.heap.size w w'/\∃β',(∀k,k<M H->β' k=β k)/\RW G w0 Z0 Z β' (H++[⟨[],e,.vec ty<|lo++q,X⟩]) w'/\
   R β' Z w' (.os (M H) ty.n 0<|M lo+M q) v/\(β'<|M H).b=w.heap.size:=by
 have hnl:=hs.newsLen
 have hrun:=run_append_grow_src (P:=P) w t tx ty' e i z hu hi hz base (M lo) sCap olds hold y (M q) news (by rw [hts];exact hs) hg A0<|growslice_fits hg (by
  omega)
 have hcap:=grownCap_ge w (M lo+M q) sCap e
 generalize grownCap w (M lo+M q) sCap e=cap at hrun hcap;generalize hcs:((olds++news).toArray++Builtin.zeroCells z.cells (cap-(M lo+M q)))=cs at hrun
 have hbw:Below w.heap.size w (w.drew.alloc<|.cells cs e):=⟨rfl,rfl,rfl,by simp [World.alloc],λk hk=>heap_alloc_old w.drew _ hk⟩
 have hblk:(w.drew.alloc<|.cells cs e).heap[w.heap.size]? =ah (.cells cs e (0,0)):=heap_alloc_new w.drew _
 have hw:∀b,Z b->(w.drew.alloc<|.cells cs e).heap[b]? =w.heap[b]? :=λb hz=>EJ hbw<|hW.Bc b hz
 have hc1:∀j,j<M olds->cs[j]? =olds[j]? :=λj hj=>by
  rw [<-hcs,zQ DK];simp only [Zt]
  grind
 have hc2:∀j,j<M news->cs[M olds+j]? =news[j]? :=λj hj=>by
  rw [<-hcs,zQ DK];simp only [Zt];rw [Gp A0]
  congr 1
  omega
 obtain ⟨β',b1,b2,b3⟩:=(hW.same hbw).Kr (ℓ:=⟨w.heap.size,0,ah cap⟩) (nb:=⟨[],e,.vec ty<|lo++q,X⟩) rfl ⟨ak,ak⟩
  (λ_=>⟨λhz=>A8,hW.below.size,λj bj hj lj e=>T4⟩) (λβ' g1 g2=>by
   simp only [Bb,g2];refine ⟨cs,hblk,?_,by rw [BG];omega,λj d hd=>?_⟩
   ·rw [<-hcs]
    have h1:cap*ty.n=(M lo+M q)*ty.n+(cap-(M lo+M q))*ty.n:=by
     rw [<-GM];congr 1;omega
    simp only [Array.size_append,ada,hzs,List.size_toArray,BG,hol,hnl];rw [h1,GM];omega
   ·by_cases hj:j<M lo
    ·rw [I1 hj] at hd
     exact ob Z _ w.heap.size 0 (λ_ h=>h) hw (λp hp=>by rw [cell_of_block hblk,F8,hc1 p hp]) j d hd
    ·rw [Gp A0] at hd
     have:=nb Z _ w.heap.size (0+M olds) (λ_ h=>h) hw (λp hp=>by rw [cell_of_block hblk,F8,hc2 p hp]) _ d hd
     rw [hol,F8,<-GM] at this;rw [show M lo+(j-M lo)=j by omega] at this
     rw [F8];exact this)
 exact ⟨_,_,hrun,hbw,β',b1,b3,aPj,Vf⟩
def size_setCells (b:aC):∀(vs:aT) (o:aC) (w:aO),(w.setCells b o vs).heap.size=w.heap.size
 | [],_,_=>rfl
 |v::r,o,w=>by rw [World.setCells,size_setCells b r];simp
def adB (b:aC):∀(vs:aT) (o:aC) (w:aO),(w.setCells b o vs).tape=w.tape
 | [],_,_=>rfl
 |v::r,o,w=>by rw [World.setCells,adB b r];rfl
def adY (w:aO) (g o:aC) (vs:aT) {i:aC}(hne:i≠g):(w.setCells g o vs).heap[i]? =w.heap[i]? :=by
 by_cases hi:i<w.heap.size
 ·exact World.heap_setCells_other w g o vs hi hne
 ·rw [Array.getElem?_eq_none (by rw [size_setCells];omega),Array.getElem?_eq_none A0]
def ad6 (b:aC) (t:aS):∀(vs:aT) (o:aC) (w:aO) (cs:aX),w.heap[b]? =ah (.cells cs t (0,0))->∃cs',(w.setCells b o vs).heap[b]? =ah (.cells cs' t (0,0))/\cs'.size=cs.size
 | [],_,w,cs,h=>⟨cs,h,rfl⟩
 | v::r,o,w,cs,h=>by
  have h1:(w.setCell ⟨b,o,aj⟩ v).heap[b]? =ah (.cells (cs.setIfInBounds o v) t (0,0)):=by
   simp [World.setCell,Array.getElem?_modify,h]
  obtain ⟨cs',h2,h3⟩:=ad6 b t r (o+1) _ _ h1;exact ⟨cs',h2,A8⟩
def aeN (hW:RW G w0 Z0 Z β H w) {t tx ty' e:aS}{i:TypeInfo}(hu:P.underlying t=ah (.slice e)) (hkx:∃e',P.underlying tx=ah (.slice e')) (hi:P.info? e=ah i) {ty:Ty}(him:i.size=ty.n)
  {B O c:aC} {ad:Addr} {lo q:List ty.D} {cs:aX} (g1:w.heap[B]? =ah (.cells cs e (0,0))) (g2:O+c*ty.n<=cs.size) (had:0<c->ad=⟨B,O,aj⟩)
  (hB0:w0.heap.size<=B) (hBZ:¬Z B) (hBo:∀j bj,H[j]? =ah bj->live β j bj->(β j).b≠B)
  (olde:∀(j:aC) (d:ty.D),lo[j]? =ah d->RD Z w ty d B (O+j*ty.n)) {y:aV} {news:aT} (hs:Src P ty.n tx y (M q) news w) (nb:Back Z w ty q news) (hroom:M lo+M q<=c):
  ∃w' v,(Builtin.append_ #[t,tx] ty' #[.slice (ah ad) (M lo) c,y]).run P w=.ok v w'/\(w'.os=w.os/\w'.tape=w.tape/\w'.output=w.output/\w'.heap.size=w.heap.size)/\(∀j,j≠B->w'.heap[j]? =w.heap[j]?)/\
   ∃β',(∀k,k<M H->β' k=β k)/\RW G w0 Z0 Z β' (H++[⟨[],e,.vec ty<|lo++q,X⟩]) w'/\R β' Z w' (.os (M H) ty.n 0<|M lo+M q) v/\(β'<|M H).b=B:=by
 have hnl:=hs.newsLen
 have hmr:M lo*ty.n+M q*ty.n<=c*ty.n:=by rw [<-GM];exact NA _ hroom
 have hrun:(Builtin.append_ #[t,tx] ty' #[.slice (ah ad) (M lo) c,y]).run P w=.ok (.slice (ah ad) (M lo+M q) c) (w.setCells B (O+M lo*ty.n) news):=by
  by_cases hc0:0<c
  ·rw [had hc0]
   have:=run_append_room_src (P:=P) w t tx ty' e i hu hi B O (M lo) c y (M q) news (by rw [him];exact hs) hroom (λj hj=>by
    rw [cell_of_block g1,him]
    have:O+M lo*ty.n+j<cs.size:=A0
    simp [this]) λj hj=>adW g1 _
   rw [him] at this;exact this
  ·have hn0:M lo=0:=A0
   have hq0:M q=0:=A0
   have hnn:news=[]:=MH.1 (by rw [hnl,hq0];simp)
   have hl:=hs.len
   have hc:=hs.cells
   rw [hq0] at hl hc;subst hnn;rw [hq0,hn0];obtain ⟨e',hk⟩:=hkx
   simp [Builtin.append_,Cj hu,Cj hk,sizeOf,typeInfo,hi,hl,him,hc,World.setCells,storeCells]
 have hne:∀j,j≠B->(w.setCells B (O+M lo*ty.n) news).heap[j]? =w.heap[j]? :=λj hj=>adY w _ _ _ hj
 have hZw:∀b',Z b'->(w.setCells B (O+M lo*ty.n) news).heap[b']? =w.heap[b']? :=λb' hz=>hne b' λe=>hBZ<|e▸hz
 have hin:=World.cell?_setCells_in B news (O+M lo*ty.n) w (λj hj=>by
  rw [cell_of_block g1]
  have:O+M lo*ty.n+j<cs.size:=A0
  simp [this])
 have hout:=λj (hj:j<O+M lo*ty.n)=>World.cell?_setCells_out B news (O+M lo*ty.n) w ⟨B,j,aj⟩ λ_ _=> .inl hj
 obtain ⟨cs',q1,q2⟩:=ad6 B e news (O+M lo*ty.n) w cs g1
 have hos:=World.os_setCells w B (O+M lo*ty.n) news
 have hot:=World.output_setCells w B (O+M lo*ty.n) news
 have htp:=adB B news (O+M lo*ty.n) w
 have hsz:=size_setCells B news (O+M lo*ty.n) w
 generalize w.setCells B (O+M lo*ty.n) news=w' at hrun hne hZw hin hout q1 hos hot htp hsz
 have hW2:=hW.loose hB0 hBZ hBo hsz ⟨hos,htp,hot⟩ hne
 obtain ⟨β',b1,b2,b3⟩:=hW2.Kr (ℓ:=⟨B,O,ah c⟩) (nb:=⟨[],e,.vec ty<|lo++q,X⟩) rfl ⟨ak,ak⟩ (λ_=>⟨hBZ,hB0,hBo⟩) (λβ' f1 f2=>by
  simp only [Bb,f2];refine ⟨cs',q1,A0,by rw [BG];exact hroom,λj d hd=>?_⟩
  by_cases hj:j<M lo
  ·rw [I1 hj] at hd
   refine RD.move (λ_ h=>h) hZw ty d _ _ _ _ (λp hp=>?_)<|olde j d hd
   have:=NA ty.n (show j+1<=M lo by omega)
   rw [GM,Sw] at this;exact hout _ A0
  ·rw [Gp A0] at hd
   have:=nb Z w' B (O+M lo*ty.n) (λ_ h=>h) hZw (λp hp=>by rw [hin p hp,Di hp]) _ d hd
   rw [Hw O,<-GM,show M lo+(j-M lo)=j by omega] at this
   exact this)
 refine ⟨w',_,hrun,⟨hos,htp,hot,hsz⟩,hne,β',b1,b3,?_,Vf⟩;simp only [R,b2]
 grind
def T.B7 {α γ:Type}{t:T α}{k:α->T γ}{y:γ}(h:(t.bind k).all λz=>z=y):∃x,t.all (λz=>z=x)/\(k x).all (λz=>z=y):=by
 rw [T.all_bind] at h;obtain ⟨x,h1,h2⟩:=T.pick h
 grind
def adk {t tx ty':aS} {x y lv:LV} {vx vy:aV} {H':aG} (hW:RW G w0 Z0 Z β H w) (h:(Lm P H t tx x y).all λq=>q=(lv,H')) (hx:R β Z w x vx) (hy:R β Z w y vy):
  ∃w' v,(Builtin.append_ #[t,tx] ty' #[vx,vy]).run P w=.ok v w'/\De (Dg β H<|owns x) w w'/\(∀b,Z b->w'.heap[b]? =w.heap[b]?)/\∃β',(∀k,k<M H->β' k=β k)/\RW G w0 Z0 Z β' H' w'/\R β' Z w' lv v/\okV (M H') lv/\
   (M H')=M H+1/\(w.heap.size<=(β'<|M H).b\/(β'<|M H).b∈Dg β H (owns x)):=by
 unfold Lm at h;split at h
 ·rename_i e ty m FM he
  obtain ⟨hu,htn,i,hi,him,hib⟩:=qn he;split at h
  ·rename_i e2 z hkx hz
   have hzi:i.zero=ah z:=aQC
   split at h
   ·rename_i hzs
    obtain ⟨q,hq,hnew⟩:=T.B7 h
    clear h
    have h:=hnew
    clear hnew
    ·obtain ⟨news,hs,nb⟩:=aGg hkx hW hq hy
     have hnl:=hs.newsLen
     subst htn
     have nil:∀(H1:aG),RW G w0 Z0 Z β H1 w->(M q:Y)*FM<=2^47->(M q:Y)<2^62->
       ∃w' v,(Builtin.append_ #[t,tx] ty' #[.slice aj 0 0,vy]).run P w=.ok v w'/\Below w.heap.size w w'/\∃β',(∀k,k<M H1->β' k=β k)/\RW G w0 Z0 Z β' (H1++[⟨[],e,.vec ty q,X⟩]) w'/\R β' Z w' (.os (M H1) ty.n 0<|M q) v/\(β'<|M H1).b=w.heap.size:=λH1 hW1 hby h62=>by
      by_cases hq0:0<M q
      ·have:=aG4 (P:=P) (ty':=ty') hW1 hu hi hzi him hzs (base:=aj) (sCap:=0) (olds:=[]) (lo:=[]) (q:=q) (by simpa using run_firstCells_none (P:=P) w.drew i.size 0 0 0) AJ (λ_ _ _ _ _ _ _ i d hd=>by simp at hd) hs nb (by simpa using hq0) (by simpa using h62) (by rw [hib];simpa using hby)
       exact QW
      ·have hqn:q=[]:=MH.1 A0
       subst hqn
       have hn0:news=[]:=MH.1<|by simpa using hnl
       subst hn0;obtain ⟨β',b1,b2,b3⟩:=hW1.Kr (ℓ:=⟨w.heap.size,0,aj⟩) (nb:=⟨[],e,.vec ty [],X⟩) rfl ⟨ak,ak⟩ (λhl=>absurd rfl hl) λβ' g1 g2=>aAP
       refine ⟨w,.slice aj 0 0,?_,Below.refl _ _,β',b1,b3,by simp [R,b2],Vf⟩
       have hl:=hs.len
       have hc:=hs.cells
       simp only [C3] at hl hc
       simp [Builtin.append_,Cj hu,Cj hkx,sizeOf,typeInfo,hi,hl,him,hc]
     split at h
     ·simp only [T.all] at h
      obtain ⟨⟨h1,h2⟩,h3⟩:=h;simp only [Az] at h3;obtain ⟨rfl,rfl⟩:=h3;simp only [R] at hx;subst hx;obtain ⟨w',v,r1,r2,β',r3,r4,r5,r6⟩:=nil H hW h1 h2;exact ⟨w',v,r1,⟨r2.os,r2.tape,r2.output,r2.size,λk hk _=>r2.block k hk⟩,λb hz=>EJ r2<|hW.Bc b hz,β',r3,r4,r5,MN,AJ,.inl A0⟩
     ·rename_i k es off n
      split at h
      ·rename_i c0 bt e' l hb
       split at h
       ·rename_i hee _
        have hee':=hee.symm
        subst hee';split at h
        ·rename_i hes
         obtain ⟨rfl,rfl⟩:=hes;simp only [T.all] at h;obtain ⟨⟨hlen,hby,h62⟩,h3⟩:=h;simp only [Az,Kq] at h3;obtain ⟨rfl,rfl⟩:=h3
         have hkl:k<M H:=(EI.1 hb).1
         have hW1:=hW.kill k bt
         have hblk:=(hW.blk k _ hb).1
         simp only [R] at hx;split at hx
         ·rename_i hcap
          obtain ⟨rfl,rfl,rfl⟩:=hx;simp only [Bb,hcap] at hblk;subst hblk;obtain ⟨w',v,r1,r2,β',r3,r4,r5,r6⟩:=nil _ hW1 (by simpa using hby)<|by simpa using h62
          simp only [C4] at r3 r5 r6;exact ⟨w',v,r1,⟨r2.os,r2.tape,r2.output,r2.size,λk hk _=>r2.block k hk⟩,λb hz=>EJ r2<|hW.Bc b hz,β',r3,by simpa using r4,by simpa using r5,MN,AJ,.inl A0⟩
         ·rename_i c hcap
          obtain ⟨hoc,ad,hvx,had⟩:=hx;subst hvx;simp only [Bb,hcap] at hblk;obtain ⟨cs,g1,g2,g3,g4⟩:=hblk
          have hlive:live β k ⟨c0,bt,.vec ty l,X⟩:=by simp [live,hcap]
          have hB0:=hW.low k _ hb hlive
          have hBZ:=hW.Cr k _ hb hlive rfl
          have hBo:∀j bj,(H.set k ⟨[],bt,.dead,X⟩)[j]? =ah bj->live β j bj->(β j).b≠(β k).b:=λj bj hj lj e=>by
           rw [IY] at hj;split at hj
           ·first
            | (split at hj
               ·simp only [Aj] at hj;subst hj;exact lj
               ·cases hj)
            |(simp only [Aj] at hj;subst hj;exact lj)
           ·rename_i hne
            exact hne<|hW.inj k j _ bj hb hj hlive lj rfl e.symm
          have olde:∀(j:aC) (d:ty.D),(l.drop off)[j]? =ah d->RD Z w ty d (β k).b ((β k).o+off*ty.n+j*ty.n):=λj d hd=>by
           rw [FR] at hd
           have:=g4 (off+j) d hd
           rwa [GM,<-Hw] at this
          have hln:M (l.drop off)=n:=DK
          have hmul:off*ty.n+(c-off)*ty.n=c*ty.n:=by rw [<-GM];congr 1;omega
          by_cases hroom:n+M q<=c-off
          ·--in place
           have hr:=aeN (P:=P) (ty':=ty') hW1 hu ⟨_,hkx⟩ hi him (B:=(β k).b) (O:=(β k).o+off*ty.n) (c:=c-off) (ad:=ad) (lo:=l.drop off) (q:=q) g1 A0 had hB0 hBZ hBo olde hs nb (by rw [hln];exact hroom)
           rw [hln] at hr;obtain ⟨w',v,r1,⟨r2,r3,r4,r5⟩,r6,β',r7,r8,r9,r10⟩:=hr;simp only [C4] at r7 r9 r10;exact ⟨w',v,r1,⟨r2,r3,r4,A0,λj _ hj=>r6 j λe=>hj<|e▸Td hb hlive rfl⟩,λb' hz=>r6 b' λe=>hBZ<|e▸hz,β',r7,r8,r9,MN,AJ,.inr (by rw [r10];exact Td hb hlive rfl)⟩
          ·--a new row
           obtain ⟨olds,o1,o2,o3⟩:=aGN olde
           have hold:(Builtin.firstCells i.size n<|.slice (ah ad) n<|c-off).run P w.drew=.ok olds.toArray w.drew:=by
            by_cases hc0:0<c-off
            ·rw [had hc0,him]
             refine run_firstCells_some (P:=P) w.drew ty.n n _ n (c-off) olds (by rw [o1,hln]) λj v hv=>?_
             have hj:j<M (l.drop off)*ty.n:=by have:=(EI.1 hv).1;omega
             rw [addr_add]
             have:=o2 j hj
             rw [hv] at this;exact this
            ·have hn0:n=0:=A0
             have:olds=[]:=MH.1 (by rw [o1,hln,hn0];simp)
             rw [this,hn0]
             simp [Builtin.firstCells,loadCells,loadCellsFrom]
           have hgr:=aG4 (P:=P) (ty':=ty') hW1 hu hi hzi him hzs (base:=ah ad) (sCap:=c-off) (olds:=olds) (lo:=l.drop off) (q:=q) (by rw [hln];exact hold) o1 (λZ' w' b' o' hZ hw hc=>aHK hZ hw olde o2 λj hj=>hc j A0) hs nb (by rw [hln];omega) (by rw [hln];exact h62) (by rw [hln,hib];exact hby)
           rw [hln] at hgr;obtain ⟨w',v,r1,r2,β',r3,r4,r5,r6⟩:=hgr;simp only [C4] at r3 r5 r6;exact ⟨w',v,r1,⟨r2.os,r2.tape,r2.output,r2.size,λk hk _=>r2.block k hk⟩,λb hz=>EJ r2<|hW.Bc b hz,β',r3,r4,r5,MN,AJ,.inl A0⟩
        ·cases h
       ·cases h
      ·cases h
     ·cases h
   ·cases h
  ·cases h
 ·cases h
def aeC {t tx ty':aS} {x y lv:LV} {vx vy:aV} {H':aG} (hW:RW G w0 Z0 Z β H w) (h:(Xy P H t tx x y).all λq=>q=(lv,H')) (hx:R β Z w x vx) (hy:R β Z w y vy):
  ∃w' v,(Builtin.copy_ #[t,tx] ty' #[vx,vy]).run P w=.ok v w'/\RW G w0 Z0 Z β H' w'/\R β Z w' lv v/\okV (M H') lv/\M H'=M H/\(∀b,Z b->w'.heap[b]? =w.heap[b]?)/\De (Dg β H<|owns x) w w':=by
 unfold Xy at h;split at h
 ·rename_i e ty m FM e2 he hkx
  obtain ⟨hu,htn,i,hi,him,hib⟩:=qn he;subst htn;split at h
  ·rename_i k es n
   split at h
   ·rename_i c0 bt e' l hb
    split at h
    ·rename_i hee _
     have hee':=hee.symm
     subst hee';split at h
     ·rename_i hes
      subst hes;obtain ⟨q,hq,h⟩:=T.B7 h;obtain ⟨news,hs,nb⟩:=aGg hkx hW hq hy
      have hnl:=hs.newsLen
      simp only [T.all] at h;obtain ⟨⟨hn,hql⟩,h3⟩:=h;simp only [Az,Kq] at h3;obtain ⟨rfl,rfl⟩:=h3
      have hkl:k<M H:=(EI.1 hb).1
      obtain ⟨hblk,hbo⟩:=hW.blk k _ hb
      have hcells:=hs.cells
      have hlen:=hs.len
      have same:M q=0->H.set k ⟨c0,bt,.vec ty<|BF q l,X⟩=H:=λh0=>by
       have hq0:q=[]:=MH.1 h0
       subst hq0
       have e:H=H.set k ⟨c0,bt,.vec ty l,X⟩:=by
        apply List.ext_getElem? λj=>?_
        rw [IY];split
        ·rename_i hj;subst hj;exact hb
        ·rfl
       simp only [BF,Ek,C3,CZ];exact e.symm
      have nothing:∀(a:Option Addr) (cc:aC),vx=.slice a n cc->M q=0->∃w' v,(Builtin.copy_ #[t,tx] ty' #[vx,vy]).run P w=.ok v w'/\RW G w0 Z0 Z β (H.set k ⟨c0,bt,.vec ty<|BF q l,X⟩) w'/\R β Z w' (.v<|ag J (M q:Y)) v/\okV (M<|H.set k ⟨c0,bt,.vec ty<|BF q l,X⟩) (.v<|ag J (M q:Y))/\M (H.set k ⟨c0,bt,.vec ty<|BF q l,X⟩)=M H/\(∀b,Z b->w'.heap[b]? =w.heap[b]?)/\De (Dg β H<|owns<|.os k ty.n 0 n) w w':=λa cc hv h0=>by
       have hnn:news=[]:=MH.1<|by rw [hnl,h0,nf]
       rw [same h0];subst hnn;rw [h0] at hcells hlen;refine ⟨w,ag J 0,?_,hW,by rw [h0];simp only [R];rfl,ak,rfl,λ_ _=>rfl,De.refl _ _⟩
       rw [hv];cases a<;>simp [Builtin.copy_,Cj hu,hlen,sizeOf,typeInfo,hi,him,hcells,storeCells,goInt]
      simp only [R] at hx;split at hx
      ·rename_i hcap
       obtain ⟨hn0,_,hv⟩:=hx;exact nothing aj 0 (by rw [hv,hn0]) A0
      ·rename_i c hcap
       obtain ⟨hoc,ad,hvx,had⟩:=hx
       by_cases hq0:M q=0
       ·exact nothing _ _ hvx hq0
       ·have hlive:live β k ⟨c0,bt,.vec ty l,X⟩:=by unfold live;rw [hcap];simp
        simp only [Bb,hcap] at hblk;obtain ⟨cur,g1,g2,g3,g4⟩:=hblk
        have hm:=NA ty.n (show M q<=c by omega)
        have hst:=yy P (β k).b (β k).o bt news 0 cur w g1 (by rw [hnl];omega) hs.one
        simp only [bF] at hst;generalize hnew:(cur.toList.take (β k).o++news++cur.toList.drop ((β k).o+M news)).toArray=new at hst
        have hnget:∀p,new[p]? =if p<(β k).o then cur[p]? else if p<(β k).o+M news then news[p-(β k).o]? else cur[p]? :=λp=>by
         rw [<-hnew]
         have hsz':(β k).o<=cur.size:=A0
         by_cases q1:p<(β k).o
         ·exact aOQ
         ·rw [AE q1]
          simp only [Zt]
          by_cases q2:p<(β k).o+M news
          ·exact aOn
          ·rw [AE q2,Gp DK,FR]
           have:(β k).o+M news+(p-M (cur.toList.take (β k).o++news))=p:=by
            simp
            omega
           rw [this]
           simp
        have hnsz:new.size=cur.size:=by
         rw [<-hnew]
         simp
         omega
        have hne:∀q,q≠(β k).b->(w.setRow (β k).b new).heap[q]? =w.heap[q]? :=λq hq=>aEk w _ _ _ hq
        have hZw:∀b',Z b'->(w.setRow (β k).b new).heap[b']? =w.heap[b']? :=λb' hz=>hne b' λe=>hW.Cr k _ hb hlive rfl<|e▸hz
        have hb2:=setRow_heap w (β k).b cur new bt _ g1
        have had:=had A0
        rw [nf,bF] at had;refine ⟨w.setRow (β k).b new,ag J (M q:Y),?_,?_,KM,ak,AJ,hZw,⟨rfl,rfl,rfl,VU,λq _ hq=>hne q λe=>hq<|e▸Td hb hlive rfl⟩⟩
        ·rw [hvx,had]
         simp [Builtin.copy_,Cj hu,hlen,sizeOf,typeInfo,hi,him,Nat.min_eq_left hql,hcells,hst,goInt]
        ·refine hW.set hb hlive rfl rfl ⟨hbo.1,ak⟩ VU ⟨rfl,rfl,rfl⟩ hne ?_
         simp only [Bb,hcap];refine ⟨new,hb2,A0,by simp only [BF,BG,FQ];omega,λi' d' hd'=>?_⟩
         unfold BF at hd'
         by_cases hii:i'<M q
         ·rw [I1 hii] at hd'
          refine nb Z (w.setRow (β k).b new) (β k).b (β k).o (λ_ h=>h) hZw (λp hp=>?_) i' d' hd'
          rw [cell_of_block hb2,hnget,AE A0,AD A0,zU]
         ·rw [Gp A0,FR,Nat.add_sub_cancel' A0] at hd'
          refine RD.move (λ_ h=>h) hZw ty d' _ _ _ _ (λp hp=>?_)<|g4 i' d' hd'
          have:=NA ty.n (show M q<=i' by omega)
          rw [cell_of_block hb2,cell_of_block g1,hnget,AE A0,AE A0]
     ·cases h
    ·cases h
   ·cases h
  ·cases h
 ·cases h
end Go.Sx
namespace Go.Sx
open Go.Proofs.YtpdndmobphnjcaaGreatDoor
open Go Go.RowKit
variable {P : Program} {G : BA} {Γ : Specs} {β : Nat -> Loc} {Z : Nat -> Prop} {Z0 : Gz} {w w0 : World} {F : List LV} {H : List AB} {a : Act}
def aEn {n m:aC}{g:LV->LV}{l:aD}(h:AU n l) (hg:∀x,okV n x->okV m (g x)):AU m (l.map g):=by
 refine AU.Cm λi x hx=>?_
 cases hl:l[i]? with
 |none=>simp [hl] at hx
 |some q=>simp [hl] at hx;subst hx;exact hg q<|AU.get _ _ h hl
def aFT {k:aC}{x:LV}:∀ {l:aD}{i:aC},l[i]? =ah x->k∈owns x->k∈ownsL l
 | [],i,h,_=>A8
 |y::ys,0,h,hk=>by simp at h;subst h;simp only [ownsL,Bf];exact .inl hk
 |y::ys,i+1,h,hk=>by simp at h;simp only [ownsL,Bf];exact .inr<|aFT (l:=ys) h hk
def TR {S:aC->Prop}{Z':aC->Prop}{g:LV->LV}{n:aC}{l:aD}{ys:aT}(h:RL β Z w l ys) (hk:AU n l) (hS:∀k,k∈ownsL l->S k) (hg:∀x y,x∈l->(∀k,k∈owns x->S k)->okV n x->R β Z w x y->R β Z' w (g x) y):RL β Z' w (l.map g) ys:=by
 refine RL.Cm (by simp [RL.length h]) λi x hx=>?_
 cases hl:l[i]? with
 |none=>simp [hl] at hx
 |some q=>
  simp [hl] at hx;subst hx
  obtain ⟨y,h1,h2⟩:=RL.get _ _ h hl;exact ⟨y,h1,hg q y (Of hl) (λk hkk=>hS k<|aFT hl hkk) (AU.get _ _ hk hl) h2⟩
def GX (H:aG) (d:aC) (x:LV):Prop:=(EX H d x).all λ_=>True
def Ox {α:Type}{g:α->T Unit}:∀ {l:List α},(GU g l).all (λ_=>True)->∀x,x∈l->(g x).all (λ_=>True)
 | [],_,x,hx=>T7
 | y::ys,h,x,hx=>by
  simp only [GU] at h;rw [T.all_bind] at h;rcases B6.1 hx with rfl|hx
  ·exact T.BQ (λ_ _=>trivial) h
  ·obtain ⟨_,h1,_⟩:=T.pick h
   exact Ox h1 x hx
def ari (e:Ty) (d:e.D) (j:aC):okV 0 ((Bx e d).getD j .junk):=gA (Na 0 e d) j
def Qj (H:aG) (hH:∀(k:aC) (b:AB),H[k]? =ah b->okB (M H) b):∀(d:aC) (x:LV),okV (M H) x->okV 0 (C8 H d x)
 |0,x,_=>by cases x<;>trivial
 | d+1,.own k off,_=>by
  simp only [C8];split
  ·rename_i b hb
   split
   ·simp only [okV]
    exact λj=>Qj H hH d _<|gA (hH k b hb).1 _
   ·trivial
  ·trivial
 | d+1,.os k es off n,_=>by
  simp only [C8];split
  ·split
   ·trivial
   ·trivial
  ·trivial
 | d+1,.op k es i j,_=>by
  simp only [C8];split
  ·split
   ·simp only [okV];exact λq=>ari _ _ _
   ·trivial
  ·trivial
 | d+1,.om k,_=>by
  simp only [C8];split
  ·rename_i hb
   exact aEn (hH k _ hb).2 λx hx=>Qj H hH d x hx
  ·trivial
 |d+1,.v x,_=>trivial
 |d+1,.bl x,_=>trivial
 |d+1,.ki _ _,_=>trivial
 |d+1,.agg l,h=>cF
 |d+1,.AQ l,h=>cF
 |d+1,.fn f l,h=>cF
 |d+1,.fb f l,h=>cF
 |d+1,.xq n f,h=>by simpa only [C8,okV] using h
 |d+1,.xl e l,h=>trivial
 |d+1,.mp kd ks vs,h=>cF
 |d+1,.oc ..,_=>trivial
 |d+1,.CU k,_=>trivial
 |d+1,.junk,_=>trivial
def ZP (Z:aC->Prop) (β:aC->aXS) (H:aG) (S:aC->Prop):aC->Prop:=λb=>Z b\/∃k bk,S k/\H[k]? =ah bk/\live β k bk/\b=(β k).b
def tN (hW:RW G w0 Z0 Z β H w) {k:aC}{b:AB}(hb:H[k]? =ah b) (hc:b.E5=U):live β k b/\(∃cs,w.heap[(β k).b]? =ah (.cells cs b.t (0,0))/\RL β Z w b.c cs.toList)/\AU (M H) b.c:=by
 obtain ⟨h1,h2⟩:=hW.blk k b hb;unfold Bb at h1;unfold AB.E5 at hc;split at hc
 ·rename_i hk'
  simp only [hk'] at h1;exact ⟨by unfold live;rw [hk'];trivial,h1,h2.1⟩
 ·cases hc
def Mf {S:aC->Prop}(hW:RW G w0 Z0 Z β H w) (clo:∀k b,S k->H[k]? =ah b->∀j,j∈b.owns->S j):∀(d:aC) (x:LV) (y:aV),GX H d x->(∀k,k∈owns x->S k)->okV (M H) x->R β Z w x y->R β (ZP Z β H S) w (C8 H d x) y
 |0,x,_,_,_,_,_=>by cases x<;>simp only [C8,R]
 | d+1,.own k off,y,hG,hS,hk,h=>by
  simp only [C8];split
  ·rename_i b hb
   split
   ·rename_i hcl
    obtain ⟨hl,⟨cs,hc,hrl⟩,hok⟩:=tN hW hb hcl
    have hSk:S k:=hS k J3
    simp only [R,okV] at*;refine ⟨(β k).b,off,h,.inr ⟨k,b,hSk,hb,hl,rfl⟩,λj hj=>?_⟩
    have hl':off+j<M b.c:=A0
    have hq:=getD_lt hl'
    obtain ⟨z,h1,h2⟩:=RL.get _ _ hrl hq;refine ⟨z,aQ7,?_⟩
    have hG':(GU (EX H d) b.c).all (λ_=>True):=aQo
    exact Mf hW clo d _ z (Ox hG' _<|Of hq) (λj hj=>clo k b hSk hb j (by unfold AB.owns;exact Bf.2<|.inl<|aFT hq hj)) (gA hok _) h2
   ·exact E4
  ·exact E4
 | d +1,.os k es off n,y,hG,hS,hk,h=>by
  simp only [C8];split
  ·rename_i c0 bt e l pp hb
   split
   ·rename_i hes
    have hle:off+n<=M l:=by
     exact aPQ
    have hSk:S k:=hS k J3
    have hlen:M ((l.drop off).take n)=n:=DK
    simp only [R] at h|-;rw [hlen];split at h
    ·obtain ⟨rfl,_,hy⟩:=h
     exact ⟨aj,0,hy,A0,λh=>absurd h A0⟩
    ·rename_i c hc
     obtain ⟨h1,a,h2,h3⟩:=h;refine ⟨ah a,c-off,h2,A0,λhn=>?_⟩
     have h4:=(hW.blk k _ hb).1
     simp only [Bb,hc] at h4;obtain ⟨cs,g1,g2,g3,g4⟩:=h4;refine ⟨_,_,by rw [h3 A0],.inr ⟨k,_,hSk,hb,by simp [live,hc],rfl⟩,λi d hd=>?_⟩
     rw [LN] at hd;split at hd
     ·rw [FR] at hd
      have:=g4 (off+i) d hd
      rw [<-hes];rw [GM,<-Hw] at this;exact RD.keep (λ_ h=> .inl h) (λ_ _=>rfl) e d _ _ rfl this
     ·cases hd
   ·exact E4
  ·exact E4
 | d +1,.op k es i j,y,hG,hS,hk,h=>by
  simp only [C8];split
  ·rename_i c0 bt e l pp hb
   split
   ·rename_i hes
    have hle:i<M l:=by
     exact aPQ
    have hSk:S k:=hS k J3
    simp only [R] at h|-;obtain ⟨hcap,hy⟩:=h
    have h4:=(hW.blk k _ hb).1
    simp only [Bb] at h4;split at h4
    ·exact aA5
    ·rename_i c hc
     obtain ⟨cs,g1,g2,g3,g4⟩:=h4;refine ⟨_,_,hy,.inr ⟨k,_,hSk,hb,by simp [live,hc],rfl⟩,λq hq=>?_⟩
     have hjq:j+q<M (Bx e<|l.getD i e.dflt):=aAd
     have hrd:=RD.keep (Z':=ZP Z β H S) (λ_ h=> .inl h) (λ_ _=>rfl) e _ _ _ rfl<|g4 i _<|getD_at hle
     obtain ⟨z,z1,z2⟩:=To (β:=β) e _ _ _ hrd (j+q) _<|getD_lt hjq
     grind
   ·exact E4
  ·exact E4
 | d+1,.om k,y,hG,hS,hk,h=>by
  simp only [C8];split
  ·rename_i c0 bt kd ks vs pp hb
   have hSk:S k:=hS k J3
   obtain ⟨h4,h5⟩:=hW.blk k _ hb;simp only [Bb] at h4;obtain ⟨es,clock,g1,g2,g3⟩:=h4;simp only [R] at h|-;refine ⟨_,es,clock,h,.inr ⟨k,_,hSk,hb,ak,rfl⟩,g1,g2,?_⟩
   have hG':(GU (EX H d) vs).all (λ_=>True):=aQo
   exact TR (S:=S) g3 h5.2 (λj hj=>clo k _ hSk hb j (by unfold AB.owns;exact Bf.2<|.inr hj)) λx y hm hx hk' hr=>Mf hW clo d x y (Ox hG' _ hm) hx hk' hr
  ·exact E4
 |d+1,.v x,_,_,_,_,h=>h
 |d+1,.bl x,_,_,_,_,h=>h
 |d+1,.ki _ _,_,_,_,_,h=>h
 |d+1,.agg l,y,hG,hS,hk,h=>by
  exact nk
 |d+1,.AQ l,y,hG,hS,hk,h=>by
  exact nk
 |d+1,.fn f l,y,hG,hS,hk,h=>by
  exact nk
 |d+1,.fb f l,y,hG,hS,hk,h=>by
  exact nk
 |d+1,.mp kd ks vs,y,hG,hS,hk,h=>by
  have hG':(GU (EX H d) vs).all (λ_=>True):=aQt
  clear hG
  simp only [C8,R,okV,owns] at*;obtain ⟨r,es,clock,h1,h2,h3,h4,h5⟩:=h;exact ⟨r,es,clock,h1,.inl h2,h3,h4,TR h5 hk hS λx y hm hx hk' hr=>Mf hW clo d x y (Ox hG' _ hm) hx hk' hr⟩
 |d+1,.xq n f,y,_,_,hk,h=>by
  exact aP5
 |d+1,.xl e l,y,_,_,hk,h=>by
  exact aP5
 |d+1,.oc ..,_,_,_,_,_=>aAQ
 |d+1,.CU k,_,_,_,_,_=>aAQ
 |d+1,.junk,_,_,_,_,_=>aAQ
def eX (ks:aH):∀(H:aG) (s k:aC),(Fw ks s H)[k]? =(H[k]?).map λb=>if ks.contains (s+k) then ⟨b.c,b.t,b.k,U⟩ else b
 | [],_,_=>by simp [Fw]
 |b::bs,s,0=>by simp [Fw]
 |b::bs,s,k+1=>by
  simp only [Fw,nJ];rw [eX ks bs (s+1) k,show s+1+k=s+(k+1) by omega]
def KP (ks:aH):∀(H:aG) (s:aC),M (Fw ks s H)=M H
 | [],_=>rfl
 |b::bs,s=>by simp [Fw,KP ks bs]
def RW.pub (hW:RW G w0 Z0 Z β H w) (ks:aH):RW G w0 Z0 (ZP Z β H λk=>k∈ks) β (Fw ks 0 H) w:=by
 have old:∀k b,(Fw ks 0 H)[k]? =ah b->∃b0,H[k]? =ah b0/\live β k b=live β k b0/\b.k=b0.k/\b.t=b0.t/\b.c=b0.c/\((k∈ks/\b.p=U)\/(k∉ks/\b.p=b0.p)):=λk b h=>by
  rw [eX] at h;cases hb:H[k]? with
  |none=>simp [hb] at h
  | some b0=>
   simp only [hb,Jn,Aj,F8] at h;refine ⟨b0,rfl,?_⟩;split at h
   ·rename_i hc
    subst h;exact ⟨rfl,rfl,rfl,rfl,.inl ⟨A8,rfl⟩⟩
   ·rename_i hc
    subst h
    grind
 have hZ:∀b,Z b->ZP Z β H (λk=>k∈ks) b:=λ_ h=> .inl h
 refine ⟨hW.below,λb hz=>?_,λb hz=>?_,λk b hk hl hp hz=>?_,λk b hk hl hp=>?_,λk b hk hl=>?_,λi j bi bj hi hj li lj pi e=>?_,λk b hk=>?_,hW.Cy.mono hZ λ_ _=>rfl,λp hp=>⟨R.mono (n:=M H) (λ_ _=>rfl) hZ (λ_ _=>rfl) _ _ (hW.gh p hp).2 (hW.gh p hp).1,by rw [KP];exact (hW.gh p hp).2⟩,λD hD=>⟨.inl (hW.Cv D hD).1,(hW.Cv D hD).2⟩⟩
 ·exact aOd
 ·rcases hz with hz|⟨k,bk,_,h2,h3,rfl⟩
  ·exact hW.Et b hz
  ·exact .inr<|hW.low k bk h2 h3
 ·obtain ⟨b0,h1,h2,h3,h4,h5,h6⟩:=old k b hk
  rcases h6 with ⟨_,h6⟩ |⟨h6,h7⟩
  ·grind
  ·rcases hz with hz|⟨j,bj,g1,g2,g3,g4⟩
   ·exact hW.Cr k b0 h1 (h2▸hl) (h7▸hp) hz
   ·exact h6<|(hW.inj k j b0 bj h1 g2 (h2▸hl) g3 (h7▸hp) g4)▸g1
 ·obtain ⟨b0,h1,h2,h3,h4,h5,h6⟩:=old k b hk
  rcases h6 with ⟨h6,_⟩ |⟨h6,h7⟩
  ·exact .inr ⟨k,b0,h6,h1,h2▸hl,rfl⟩
  ·exact .inl<|hW.GV k b0 h1 (h2▸hl)<|h7▸hp
 ·obtain ⟨b0,h1,h2,_⟩:=old k b hk
  exact hW.low k b0 h1<|h2▸hl
 ·obtain ⟨b0,h1,h2,h3,h4,h5,h6⟩:=old i bi hi
  obtain ⟨c0,g1,g2,_⟩:=old j bj hj;rcases h6 with ⟨_,h6⟩ |⟨h6,h7⟩
  ·grind
  ·exact hW.inj i j b0 c0 h1 g1 (h2▸li) (g2▸lj) (h7▸pi) e
 ·obtain ⟨b0,h1,h2,h3,h4,h5,h6⟩:=old k b hk
  obtain ⟨q1,q2⟩:=hW.blk k b0 h1
  have q3:=q1.keep (β':=β) (Z':=ZP Z β H λk=>k∈ks) (w':=w) (n:=M H) (λ_ _=>rfl) hZ (λ_ _=>rfl) rfl (λ_=>rfl) q2
  rw [KP];refine ⟨?_,?_⟩
  ·unfold Bb at q3|-
   rwa [h3,h4,h5]
  ·unfold okB at q2|-
   rwa [h3,h5]
def T9 {ks:aH}{l:aD}(h:Kb H ks l=U):(∀k,k∈ownsL l->k∈ks)/\(∀k b,k∈ks->H[k]? =ah b->∀j,j∈b.owns->j∈ks):=by
 unfold Kb at h;refine ⟨λk hk=>A8,λk b hk hb j hj=>?_⟩
 grind
end Go.Sx
namespace Go.Sx
open Go.Proofs.YtpdndmobphnjcaaGreatDoor
open Go Go.RowKit
variable {P : Program} {G : BA} {Γ : Specs} {β : Nat -> Loc} {Z : Nat -> Prop} {Z0 : Gz} {w w0 : World} {F : List LV} {H : List AB} {a : Act}
def RO (β:aC->aXS) (Z:aC->Prop) (w:aO):aYc->aXW->Prop
 |none,aj=>True
 |some x,ah y=>R β Z w x y
 |_,_=>False
def aFH {lo hi:aXW}{len cap i j:aC}(hij:i<=j) (hlc:j<=cap) (hlo:match lo with|none=>i=0|some v=>∃k,v=ag k i) (hhi:match hi with|none=>j=len|some v=>∃k,v=ag k j) (w':aO):
  (Instr.sliceBounds U len cap lo hi aj).run P w'=.ok (i,j,cap) w':=by
 have bd:∀(k:aXU) (x y:aC) (c:BoundsCode),x<=y->(Instr.sliceBound (ag k x) y c).run P w'=.ok x w':=λk x y c hxy=>by
  exact aOY
 cases lo with
 |none=>
  subst hlo;cases hi with
  |none=>simp only at hhi;subst hhi;simp [Instr.sliceBounds]
  |some v=>simp only at hhi;obtain ⟨k,rfl⟩:=hhi;simp [Instr.sliceBounds,bd k j cap _ hlc]
 |some u=>
  obtain ⟨k',rfl⟩:=hlo;cases hi with
  |none=>simp only at hhi;subst hhi;simp [Instr.sliceBounds,bd k' i j _ hij]
  |some v=>simp only at hhi;obtain ⟨k,rfl⟩:=hhi;simp [Instr.sliceBounds,bd k j cap _ hlc,bd k' i j _ hij]
def adI {t:aS} {x lv:LV} {y:aV} {lo hi:aYc} {vlo vhi:aXW} {N:aC} (h:(vC P t x lo hi).all λz=>z=lv) (hr:R β Z w x y) (hlo:RO β Z w lo vlo) (hhi:RO β Z w hi vhi) (hk:okV N x):
  ∃v,(∀w',(Instr.sliceAt t y vlo vhi aj).run P w'=.ok v w')/\R β Z w lv v/\okV N lv:=by
 unfold vC at h;split at h
 ·rename_i e hu
  split at h
  ·rename_i m hsz
   have e2:=λw=>run_sizeOf hsz w
   have bnd:∀(o:aYc) (v:aXW) (d n:Y),RO β Z w o v->(match o with|none=>ah d|some y=>match pl y with|some (.int _ n)=>ah n|_=>aj)=ah n->(match v with|none=>n=d|some v=>∃k,v=ag k n):=λo v d n ho hn=>by
    cases o with
    |none=>
     cases v with
     |none=>simp only at hn|-;exact (Ej hn).symm
     |some v=>cases ho
    | some x=>
     cases v with
     |none=>cases ho
     | some v=>
      simp only [RO] at ho;simp only at hn|-;split at hn
      ·rename_i k n' hp
       simp only [Aj] at hn;subst hn;exact ⟨k,Cs hp ho⟩
      ·cases hn
   have nn:∀(v:aXW) (d n:Y),0<=n->0<=d->(match v with|none=>n=d|some v=>∃k,v=ag k n)->(match v with|none=>n.toNat=d.toNat|some v=>∃k,v=ag k (n.toNat:Y)):=λv d n hn hd hv=>by
    cases v with
    |none=>simp only at hv|-;rw [hv]
    |some v=>simp only at hv|-;rw [Bs hn];exact hv
   simp only at h;split at h
   ·rename_i ty l
    split at h
    ·rename_i i j hi1 hi2
     split at h
     ·rename_i htn
      simp only [T.all] at h;obtain ⟨⟨h0,h1,h2⟩,h3⟩:=h;subst h3;simp only [R] at hr;obtain ⟨ad,cap,g1,g2,g3⟩:=hr
      have b1:=nn vlo 0 i h0 A0<|bnd lo vlo 0 i hlo hi1
      have b2:=nn vhi _ j A0 A0<|bnd hi vhi _ j hhi hi2
      simp only [C2,Int.toNat_zero] at b1 b2;refine ⟨_,λw'=>by simp [Instr.sliceAt,Instr.slice,Cj hu,g1,aFH (P:=P) (len:=M l) (cap:=cap) (i:=i.toNat) (j:=j.toNat) A0 A0 b1 b2 w',e2];rfl,?_,ak⟩
      have hlen:M ((l.drop i.toNat).take<|j.toNat-i.toNat)=j.toNat-i.toNat:=DK
      simp only [R];rw [hlen];refine ⟨_,_,rfl,A0,λhn=>?_⟩
      obtain ⟨b,off,g4,g5,g6⟩:=g3 A0;rw [AE A0,g4];simp only [Jn,addr_add];refine ⟨b,_,rfl,g5,λp d hd=>?_⟩
      rw [LN] at hd;split at hd
      ·rw [FR] at hd
       have:=g6 (i.toNat+p) d hd
       rw [GM,<-Hw,htn] at this;rw [htn];exact this
      ·cases hd
     ·cases h
    ·cases h
   ·rename_i k es off n
    split at h
    ·rename_i i j hi1 hi2
     split at h
     ·rename_i hes
      simp only [T.all] at h;obtain ⟨⟨h0,h1,h2⟩,h3⟩:=h;subst h3
      have b1:=nn vlo 0 i h0 A0<|bnd lo vlo 0 i hlo hi1
      have b2:=nn vhi _ j A0 A0<|bnd hi vhi _ j hhi hi2
      simp only [R] at hr;split at hr
      ·rename_i hcap
       obtain ⟨rfl,rfl,rfl⟩:=hr
       have hi0:i.toNat=0:=A0
       have hj0:j.toNat=0:=A0
       refine ⟨.slice aj 0 0,λw'=>by simp [Instr.sliceAt,Instr.slice,Cj hu,aFH (P:=P) (len:=0) (cap:=0) (i:=i.toNat) (j:=j.toNat) A0 A0 b1 b2 w',e2,hi0,hj0],by simp [R,hcap,hi0,hj0],hk⟩
      ·rename_i c hcap
       obtain ⟨g1,ad,g2,g3⟩:=hr;subst g2;refine ⟨_,λw'=>by simp [Instr.sliceAt,Instr.slice,Cj hu,aFH (P:=P) (len:=n) (cap:=c-off) (i:=i.toNat) (j:=j.toNat) A0 A0 b1 b2 w',e2];rfl,?_,hk⟩
       simp only [R,hcap];refine ⟨A0,if c-off=i.toNat then ad else ad.add (i.toNat*(m+1)),?_,λhn=>?_⟩
       ·rw [show c-(off+i.toNat)=c-off-i.toNat by omega]
        split<;>rfl
       ·rw [AE A0,g3 A0,addr_add,hes,GM,Hw]
     ·cases h
    ·cases h
   ·cases h
  ·cases h
 ·cases h
def ae5 {lo:aXW}{kh km:aXU}{len cap i j:aC}(hij:i<=j) (hlc:j<=cap) (hlo:match lo with|none=>i=0|some v=>∃k,v=ag k i) (w':aO):
  (Instr.sliceBounds U len cap lo (ah<|ag kh j)<|ah<|ag km j).run P w'=.ok (i,j,j) w':=by
 have bd:∀(k:aXU) (x y:aC) (c:BoundsCode),x<=y->(Instr.sliceBound (ag k x) y c).run P w'=.ok x w':=λk x y c hxy=>by
  exact aOY
 cases lo with
 |none=>simp only at hlo;subst hlo;simp [Instr.sliceBounds,bd km j cap _ hlc,bd kh j j _<|Au j]
 |some u=>
  obtain ⟨k',rfl⟩:=hlo
  simp [Instr.sliceBounds,bd km j cap _ hlc,bd kh j j _<|Au j,bd k' i j _ hij]
def adC {t:aS} {x lv hi mx:LV} {y vhi vmx:aV} {lo:aYc} {vlo:aXW} {N:aC} (h:(th P t x lo hi mx).all λz=>z=lv) (hr:R β Z w x y) (hlo:RO β Z w lo vlo) (hhi:R β Z w hi vhi) (hmx:R β Z w mx vmx):
  ∃v,(∀w',(Instr.sliceAt t y vlo (ah vhi)<|ah vmx).run P w'=.ok v w')/\R β Z w lv v/\okV N lv:=by
 unfold th at h;split at h
 ·rename_i e hu
  split at h
  ·rename_i m hsz
   have e2:=λw=>run_sizeOf hsz w
   split at h
   ·rename_i ty l
    split at h
    ·rename_i i kj j kq q hi1 hi2 hi3
     have v2:=Cs hi2 hhi
     have v3:=Cs hi3 hmx
     subst v2;subst v3;split at h
     ·rename_i htn
      obtain ⟨⟨h0,h1,h2,rfl⟩,h3⟩:=h;subst h3;obtain ⟨ad,cap,g1,g2,g3⟩:=hr
      have b1:(match (generalizing:=false) vlo with|none=>i.toNat=0|some v=>∃k,v=ag k (i.toNat:Y)):=by
       cases lo with
       |none=>
        cases vlo with
        |none=>simp only [Aj] at hi1;subst hi1;rfl
        |some v=>cases hlo
       | some u=>
        cases vlo with
        |none=>cases hlo
        | some v=>
         simp only at hi1|-;split at hi1
         ·rename_i k n' hp
          simp only [Aj] at hi1;subst hi1;exact ⟨k,by rw [Bs h0];exact Cs hp hlo⟩
         ·cases hi1
      have hj:q=((q.toNat:aC):Y):=(Bs A0).symm
      have hb:=λw'=>ae5 (P:=P) (lo:=vlo) (kh:=kj) (km:=kq) (len:=M l) (cap:=cap) (i:=i.toNat) (j:=q.toNat) A0 A0 b1 w'
      rw [<-hj] at hb;refine ⟨_,λw'=>by simp [Instr.sliceAt,Instr.slice,Cj hu,g1,hb w',e2];rfl,?_,ak⟩
      have hlen:M ((l.drop i.toNat).take<|q.toNat-i.toNat)=q.toNat-i.toNat:=DK
      simp only [R];rw [hlen];refine ⟨_,_,rfl,A0,λhn=>?_⟩
      obtain ⟨b,off,g4,g5,g6⟩:=g3 A0;rw [AE A0,g4];simp only [Jn,addr_add];refine ⟨b,_,rfl,g5,λp d hd=>?_⟩
      rw [LN] at hd;split at hd
      ·rw [FR] at hd
       have:=g6 (i.toNat+p) d hd
       grind
      ·cases hd
     ·cases h
    ·cases h
   ·cases h
  ·cases h
 ·cases h
def aFx {kd:aXU}{n:Y}{z:aV}{lv:LV}:∀(ks:aB) (vs:aD) (es:aX6) (s:aC),(eZ kd n z ks vs).all (λr=>r=lv)->M ks=M vs->es.map (·.key)=ks.map (.int kd)->RL β Z w vs (es.map (·.val))->
  (∃s' v,aA (.int kd) (ag kd n) es s=ah (ah (s',v))/\R β Z w lv v/\∃i:aC,vs[i]? =ah lv)\/(aA (.int kd) (ag kd n) es s=ah aj/\lv=.v z)
 | [],[],es,s,h,_,hk,hr=>by
  exact aOX
 | [],_::_,_,_,_,hl,_,_=>A8
 |_::_,[],_,_,_,hl,_,_=>A8
 | k::ks,v::vs,es,s,h,hl,hk,hr=>by
  cases es with
  |nil=>simp at hk
  | cons e es=>
   simp only [ES,Hv] at hk;obtain ⟨y,zs,h1,h2,h3⟩:=hr;obtain ⟨rfl,rfl⟩:=h1;cases hb:(n==k) with
   |true=>
    have:=h.1 hb
    subst this;exact .inl ⟨s,e.val,VW,h2,0,rfl⟩
   |false=>
    have hf:aA (.int kd) (ag kd n) (e::es) s=aA (.int kd) (ag kd n) es (s+1):=VW
    rw [hf];rcases aFx ks vs es (s+1) (h.2 hb) A8 hk.2 h3 with ⟨s',v',q1,q2,i,q3⟩ |q
    ·exact .inl ⟨s',v',q1,q2,i+1,A8⟩
    ·exact .inr q
def qT {kt:aS}{kd:aXU}(hu:P.underlying kt=ah (.int kd)) (e:aM) (v:aV) (w':aO):(Instr.checkKey e 10000 kt v).run P w'=.ok () w':=by
 unfold Instr.checkKey
 simp [Cj hu]
def aFX {t:aS}{x q lv:LV}{y z:aV}(hW:RW G w0 Z0 Z β H w) (h:(UB P H t x q).all λr=>r=lv) (hr:R β Z w x y) (hq:R β Z w q z) (hk:okV (M H) x):
  ∃v,(∀w',(∀b,(Z b\/∃k,x=.om k/\b=(β k).b)->w'.heap[b]? =w.heap[b]?)->(Instr.lookup t y z X).run P w'=.ok v w')/\R β Z w lv v/\okV (M H) lv:=by
 unfold UB at h;split at h
 ·rename_i kt et hu
  split at h
  ·rename_i kd z0 kd' n hku hz hp
   split at h
   ·rename_i hkd
    obtain ⟨rfl,hz1⟩:=hkd
    have hzq:=Cs hp hq
    have main:∀(r:aC) (es:Array MapEntry) (clock:aC) (ks:aB) (vs:aD),y=.map (ah r)->w.heap[r]? =ah (.map es clock)->es.toList.map (·.key)=ks.map (.int kd')->RL β Z w vs (es.toList.map (·.val))->M ks=M vs->AU (M H) vs->(eZ kd' n z0 ks vs).all (λr=>r=lv)->(Z r\/∃k,x=.om k/\r=(β k).b)->
      ∃v,(∀w',(∀b,(Z b\/∃k,x=.om k/\b=(β k).b)->w'.heap[b]? =w.heap[b]?)->(Instr.lookup t y z X).run P w'=.ok v w')/\R β Z w lv v/\okV (M H) lv:=λr es clock ks vs hy hh hkk hvv hl hok hch hzr=>by
     rcases aFx ks vs es.toList 0 hch hl hkk hvv with ⟨s',v',q1,q2,i,q3⟩ |⟨q1,q2⟩
     ·refine ⟨v',λw' hw'=>?_,q2,AU.get i _ hok q3⟩
      exact aO7
     ·refine ⟨z0,λw' hw'=>?_,by rw [q2];simp [R],by rw [q2];trivial⟩
      exact aNg
    split at h
    ·exact aOq
    ·rename_i k
     split at h
     ·rename_i hb
      split at h
      ·rename_i hkk
       obtain ⟨rfl,hl⟩:=hkk;obtain ⟨b1,b2⟩:=hW.blk k _ hb;obtain ⟨es,clock,g1,g2,g3⟩:=b1;exact aOh
      ·cases h
     ·cases h
    ·cases h
   ·cases h
  ·cases h
 ·cases h
def aFd {kd:aXU}{n:Y}{z:aV}{lv:LV}:∀(ks:aB) (vs:aD) (es:aX6) (s:aC),(eG kd n z ks vs).all (λr=>r=lv)->M ks=M vs->es.map (·.key)=ks.map (.int kd)->RL β Z w vs (es.map (·.val))->
  (∃s' v u,aA (.int kd) (ag kd n) es s=ah (ah (s',v))/\R β Z w u v/\lv=.AQ [norm u,.bl U]/\∃i:aC,vs[i]? =ah u)\/(aA (.int kd) (ag kd n) es s=ah aj/\lv=.AQ [.v z,.bl X])
 | [],[],es,s,h,_,hk,hr=>by
  exact aOX
 | [],_::_,_,_,_,hl,_,_=>A8
 |_::_,[],_,_,_,hl,_,_=>A8
 | k::ks,v::vs,es,s,h,hl,hk,hr=>by
  cases es with
  |nil=>simp at hk
  | cons e es=>
   simp only [ES,Hv] at hk;obtain ⟨y,zs,h1,h2,h3⟩:=hr;obtain ⟨rfl,rfl⟩:=h1;cases hb:(n==k) with
   |true=>
    have:=h.1 hb
    subst this;exact .inl ⟨s,e.val,v,VW,h2,rfl,0,rfl⟩
   |false=>
    have hf:aA (.int kd) (ag kd n) (e::es) s=aA (.int kd) (ag kd n) es (s+1):=VW
    rw [hf];rcases aFd ks vs es (s+1) (h.2 hb) A8 hk.2 h3 with ⟨s',v',u',q1,q2,q4,i,q3⟩ |q
    ·exact .inl ⟨s',v',u',q1,q2,q4,i+1,A8⟩
    ·exact .inr q
def adH {t:aS}{x q lv:LV}{y z:aV}(hW:RW G w0 Z0 Z β H w) (h:(Xd P H t x q).all λr=>r=lv) (hr:R β Z w x y) (hq:R β Z w q z) (hk:okV (M H) x):
  ∃v,(∀w',(∀b,(Z b\/∃k,x=.om k/\b=(β k).b)->w'.heap[b]? =w.heap[b]?)->(Instr.lookup t y z U).run P w'=.ok v w')/\R β Z w lv v/\okV (M H) lv:=by
 unfold Xd at h;split at h
 ·rename_i kt et hu
  split at h
  ·rename_i kd z0 kd' n hku hz hp
   split at h
   ·rename_i hkd
    obtain ⟨rfl,hz1⟩:=hkd
    have hzq:=Cs hp hq
    have main:∀(r:aC) (es:Array MapEntry) (clock:aC) (ks:aB) (vs:aD),y=.map (ah r)->w.heap[r]? =ah (.map es clock)->es.toList.map (·.key)=ks.map (.int kd')->RL β Z w vs (es.toList.map (·.val))->M ks=M vs->AU (M H) vs->(eG kd' n z0 ks vs).all (λr=>r=lv)->(Z r\/∃k,x=.om k/\r=(β k).b)->
      ∃v,(∀w',(∀b,(Z b\/∃k,x=.om k/\b=(β k).b)->w'.heap[b]? =w.heap[b]?)->(Instr.lookup t y z U).run P w'=.ok v w')/\R β Z w lv v/\okV (M H) lv:=λr es clock ks vs hy hh hkk hvv hl hok hch hzr=>by
     rcases aFd ks vs es.toList 0 hch hl hkk hvv with ⟨s',v',u,q1,q2,q4,i,q3⟩ |⟨q1,q2⟩
     ·refine ⟨.tuple #[v',.bool U],λw' hw'=>?_,by rw [q4];exact ⟨_,rfl,v',[.bool U],rfl,Qw q2,_,[],rfl,rfl,rfl⟩,by rw [q4];exact ⟨Wh<|AU.get i _ hok q3,ak,ak⟩⟩
      exact aO7
     ·refine ⟨.tuple #[z0,.bool X],λw' hw'=>?_,by rw [q2];exact ⟨_,rfl,z0,[.bool X],rfl,rfl,_,[],rfl,rfl,rfl⟩,by rw [q2];exact ⟨ak,ak,ak⟩⟩
      exact aNg
    split at h
    ·exact aOq
    ·rename_i k
     split at h
     ·rename_i hb
      split at h
      ·rename_i hkk
       obtain ⟨rfl,hl⟩:=hkk;obtain ⟨b1,b2⟩:=hW.blk k _ hb;simp only [Bb] at b1;obtain ⟨es,clock,g1,g2,g3⟩:=b1;simp only [R] at hr;exact aOh
      ·cases h
     ·cases h
    ·cases h
   ·cases h
  ·cases h
 ·cases h
def aGt {kd:aXU}{n:Y}:∀(ks:aB) (es:aX6) (s:aC),ks.contains n=X->es.map (·.key)=ks.map (.int kd)->aA (.int kd) (ag kd n) es s=ah aj
 | [],es,s,_,hk=>by
  have:es=[]:=GN
  subst this;rfl
 | k::ks,es,s,hc,hk=>by
  cases es with
  |nil=>simp at hk
  |cons e es=>
   simp only [ES,Hv] at hk;simp only [List.contains_cons,HN] at hc
   have hf:aA (.int kd) (ag kd n) (e::es) s=aA (.int kd) (ag kd n) es (s+1):=by simp [aA,Instr.sameNow,hk.1,hc.1]
   rw [hf];exact aGt ks es (s+1) hc.2 hk.2
def aG2 {t:aS}{x q r:LV}{y z u:aV}{H':aG}(hW:RW G w0 Z0 Z β H w) (h:(Vm P H t x q r).all λr=>r=H') (hr:R β Z w x y) (hq:R β Z w q z) (hu:R β Z w r u) (hrk:okV (M H) r):
  ∃w',(Instr.mapUpdate t y z u).run P w=.ok () w'/\RW G w0 Z0 Z β H' w'/\M H'=M H/\(∀b,Z b->w'.heap[b]? =w.heap[b]?)/\De (Dg β H<|owns x) w w':=by
 unfold Vm at h;split at h
 ·rename_i kt et hut
  split at h
  ·rename_i kd kd' n k hku hp
   split at h
   ·rename_i c0 bt kd2 ks vs hb
    split at h
    ·rename_i hle
     obtain ⟨rfl,rfl,hl,hnc⟩:=hle;subst h;obtain ⟨b1,b2⟩:=hW.blk k _ hb;obtain ⟨es,clock,g1,g2,g3⟩:=b1;simp only [R] at hr
     have hzq:=Cs hp hq
     have hlt:=(Ia.1 g1).1
     have hget:(getObj (β k).b).run P w=.ok (.map es clock) w:=aQf
     let w':aO:={w with heap:=w.heap.setIfInBounds (β k).b<|.map (es.push {key:=z,val:=u,born:=clock})<|clock+1}
     have hset:(setObj (β k).b<|.map (es.push {key:=z,val:=u,born:=clock})<|clock+1).run P w=.ok () w':=aQu
     have hfn:=aGt ks es.toList 0 hnc g2
     have hlive:=trivial
     have hne:∀j,j≠(β k).b->w'.heap[j]? =w.heap[j]? :=λj hj=>A8
     have hZw:∀b',Z b'->w'.heap[b']? =w.heap[b']? :=λb' hz=>hne b' λe=>hW.Cr k _ hb hlive rfl<|e▸hz
     refine ⟨w',?_,?_,AJ,hZw,⟨rfl,rfl,rfl,oh,λj _ hj=>hne j λe=>hj<|e▸Td hb hlive rfl⟩⟩
     ·rw [hzq] at hset
      simp [Instr.mapUpdate,Cj hut,hr,hget,qT hku,Instr.findKey,Cj hku,hzq,hfn,hset]
     ·refine hW.set hb hlive rfl rfl ⟨ak,AU.append b2.2 ⟨hrk,ak⟩⟩ oh ⟨rfl,rfl,rfl⟩ hne ?_
      refine ⟨es.push {key:=z,val:=u,born:=clock},clock+1,by simp [w',hlt],by simp [g2,hzq],?_⟩
      have h1:RL β Z w (vs++[r]) (es.toList.map (·.val)++[u]):=g3.app (by simp only [RL];exact ⟨u,[],rfl,hu,rfl⟩)
      have hok1:AU (M H) [r]:=⟨hrk,ak⟩
      have h2:=RL.mono (n:=M H) (β':=β) (Z':=Z) (λ_ _=>rfl) (λ_ h=>h) hZw _ _ (AU.append b2.2 hok1) h1
      grind
    ·cases h
   ·cases h
  ·cases h
 ·cases h
def aUh:∀ {e:Ty}{v:aV}{d:e.D},N1 e v=ah d->v=yL e d
 | .int k,v,d,h=>by
  simp only [N1] at h;split at h
  ·split at h
   ·rename_i hk;simp only [Aj] at h;subst h hk;rfl
   ·cases h
  ·cases h
 | .str,v,d,h=>by
  simp only [N1] at h;split at h
  ·simp only [Aj] at h;subst h;rfl
  ·cases h
 | .bool,_,_,h=>aAo
 | .sl _,_,_,h=>aAo
 | .pair _ _,_,_,h=>aAo
def pY:Ty->TypeDesc
 | .int k=> .int k
 |_=> .string
def aHp {k:aXU}{d:Y}:∀(l:aB) (es:aX6) (s:aC),es.map (·.key)=l.map (.int k)->(∀x,x∈es->x.val=.bool U)->
  (l.contains d=U/\∃s',aA (.int k) (ag k d) es s=ah (ah (s',.bool U)))\/(l.contains d=X/\aA (.int k) (ag k d) es s=ah aj)
 | [],es,s,hk,_=>by
  exact aPP
 | x::l,es,s,hk,hv=>by
  cases es with
  |nil=>simp at hk
  | cons e es=>
   simp only [ES,Hv] at hk;cases hb:(d==x) with
   |true=>
    refine .inl ⟨A8,s,?_⟩
    have hv1:=hv e AJ
    simp [aA,Instr.sameNow,hk.1,hb,hv1]
   |false=>
    have hf:aA (.int k) (ag k d) (e::es) s=aA (.int k) (ag k d) es (s+1):=VW
    rw [hf]
    have hc:(x::l).contains d=l.contains d:=A8
    rw [hc];exact aHp l es (s+1) hk.2 λy hy=>hv y A8
def aHo {d:bz}:∀(l:aE) (es:aX6) (s:aC),es.map (·.key)=l.map .string->(∀x,x∈es->x.val=.bool U)->
  (l.contains d=U/\∃s',aA .string (.string d) es s=ah (ah (s',.bool U)))\/(l.contains d=X/\aA .string (.string d) es s=ah aj)
 | [],es,s,hk,_=>by
  exact aPP
 | x::l,es,s,hk,hv=>by
  cases es with
  |nil=>simp at hk
  | cons e es=>
   simp only [ES,Hv] at hk;cases hb:(d==x) with
   |true=>
    refine .inl ⟨A8,s,?_⟩
    have hv1:=hv e AJ
    simp [aA,Instr.sameNow,hk.1,hb,hv1]
   |false=>
    have hf:aA .string (.string d) (e::es) s=aA .string (.string d) es (s+1):=VW
    rw [hf]
    have hc:(x::l).contains d=l.contains d:=A8
    rw [hc];exact aHo l es (s+1) hk.2 λy hy=>hv y A8
def aKo {e:Ty}{v:aV}{d:e.D}(hd:N1 e v=ah d) (l:List e.D) (es:aX6) (s:aC) (hk:es.map (·.key)=List.map (yL e) l) (hv:∀x,x∈es->x.val=.bool U):
  (pS e d l=U/\∃s',aA (pY e) v es s=ah (ah (s',.bool U)))\/(pS e d l=X/\aA (pY e) v es s=ah aj):=by
 have hvv:=aUh hd
 subst hvv;cases e with
 |int k=>exact aHp l es s hk hv
 |str=>exact aHo l es s hk hv
 |bool=>simp [N1] at hd
 |sl _=>simp [N1] at hd
 |pair _ _=>simp [N1] at hd
def aGL {t:aS}{e:Ty}(h:cq P t=ah e):∃kt et,P.underlying t=ah (.map kt et)/\P.underlying et=ah .bool/\P.underlying kt=ah (pY e)/\(∀(b:aM) (v:aV) (w':aO),(Instr.checkKey b 10000 kt v).run P w'=.ok () w')/\Ik P et=ah (.bool X):=by
 unfold cq at h;split at h
 ·rename_i kt et hu
  split at h
  ·rename_i k h1 h2 h3
   simp only [Aj] at h;subst h;exact ⟨kt,et,hu,h1,h2,λb v w'=>qT h2 b v w',h3⟩
  ·rename_i h1 h2 h3
   simp only [Aj] at h;subst h;exact ⟨kt,et,hu,h1,h2,λb v w'=>by unfold Instr.checkKey;simp [Cj h2],h3⟩
  ·cases h
 ·cases h
def aFa {t:aS}{x q lv:LV}{y z:aV}(hW:RW G w0 Z0 Z β H w) (h:(Y2 P H t x q).all λr=>r=lv) (hr:R β Z w x y) (hq:R β Z w q z) (hk:okV (M H) x):
  ∃v,(∀w',(∀b,(Z b\/∃k,x=.om k/\b=(β k).b)->w'.heap[b]? =w.heap[b]?)->(Instr.lookup t y z X).run P w'=.ok v w')/\R β Z w lv v/\okV (M H) lv:=by
 unfold Y2 at h;split at h
 ·rename_i k
  split at h
  ·rename_i c0 bt e l pp hb
   unfold aaO at h;split at h
   ·rename_i e' v hs hp
    split at h
    ·rename_i he d _ hd
     obtain ⟨he⟩:=he;subst he;subst h;obtain ⟨kt,et,u1,u2,u3,u4,u5⟩:=aGL hs;obtain ⟨b1,b2⟩:=hW.blk k _ hb;obtain ⟨es,clock,g1,g2,g3⟩:=b1;simp only [R] at hr
     have hzq:=Cs hp hq
     rcases aKo hd l es.toList 0 g2 g3 with ⟨m1,s',m2⟩ |⟨m1,m2⟩
     ·refine ⟨.bool U,λw' hw'=>?_,by simp only [R,m1],ak⟩
      have hh':w'.heap[(β k).b]? =ah (.map es clock):=A8
      have hget:(getObj (β k).b).run P w'=.ok (.map es clock) w':=oD
      simp [Instr.lookup,Cj u1,hr,hget,u4,Instr.findKey,Cj u3,hzq,m2]
     ·refine ⟨.bool X,λw' hw'=>?_,by simp only [R,m1],ak⟩
      have hh':w'.heap[(β k).b]? =ah (.map es clock):=A8
      have hget:(getObj (β k).b).run P w'=.ok (.map es clock) w':=oD
      have hz0:=λw=>qX u5 w
      simp [Instr.lookup,Cj u1,hr,hget,u4,Instr.findKey,Cj u3,hzq,m2,hz0]
    ·cases h
   ·cases h
  ·exact aFX hW h hr hq hk
 ·exact aFX hW h hr hq hk
def adb {t:aS}{x q r:LV}{y z u:aV}{H':aG}(hW:RW G w0 Z0 Z β H w) (h:(insL P H t x q r).all λr=>r=H') (hr:R β Z w x y) (hq:R β Z w q z) (hu:R β Z w r u) (hrk:okV (M H) r):
  ∃w',(Instr.mapUpdate t y z u).run P w=.ok () w'/\RW G w0 Z0 Z β H' w'/\M H'=M H/\(∀b,Z b->w'.heap[b]? =w.heap[b]?)/\De (Dg β H<|owns x) w w':=by
 unfold insL at h;split at h
 ·rename_i k
  split at h
  ·rename_i c0 bt e l hb
   split at h
   ·rename_i e' v hs hp
    split at h
    ·rename_i he d _ hd
     obtain ⟨he⟩:=he;subst he;obtain ⟨hnm,h⟩:=h;subst h;obtain ⟨kt,et,u1,u2,u3,u4,u5⟩:=aGL hs;obtain ⟨b1,b2⟩:=hW.blk k _ hb;obtain ⟨es,clock,g1,g2,g3⟩:=b1;simp only [R] at hr hu
     have hzq:=Cs hp hq
     have hlt:=(Ia.1 g1).1
     have hget:(getObj (β k).b).run P w=.ok (.map es clock) w:=aQf
     let w':aO:={w with heap:=w.heap.setIfInBounds (β k).b<|.map (es.push {key:=z,val:=u,born:=clock})<|clock+1}
     have hset:(setObj (β k).b<|.map (es.push {key:=z,val:=u,born:=clock})<|clock+1).run P w=.ok () w':=aQu
     have hfn:aA (pY e') v es.toList 0=ah none:=by
      rcases aKo hd l es.toList 0 g2 g3 with ⟨m1,_⟩ |⟨_,m2⟩
      ·grind
      ·exact m2
     have hlive:=trivial
     have hne:∀j,j≠(β k).b->w'.heap[j]? =w.heap[j]? :=λj hj=>A8
     have hZw:∀b',Z b'->w'.heap[b']? =w.heap[b']? :=λb' hz=>hne b' λe=>hW.Cr k _ hb hlive rfl<|e▸hz
     refine ⟨w',?_,?_,AJ,hZw,⟨rfl,rfl,rfl,oh,λj _ hj=>hne j λe=>hj<|e▸Td hb hlive rfl⟩⟩
     ·rw [hzq] at hset
      simp [Instr.mapUpdate,Cj u1,hr,hget,u4,Instr.findKey,Cj u3,hzq,hfn,hset]
     ·refine hW.set hb hlive rfl rfl ⟨ak,ak⟩ oh ⟨rfl,rfl,rfl⟩ hne ?_
      refine ⟨es.push {key:=z,val:=u,born:=clock},clock+1,by simp [w',hlt],?_,λx hx=>?_⟩
      ·rw [Array.toList_push,KJ,KJ,g2]
       simp [hzq,aUh hd]
      ·rw [Array.toList_push,Bf] at hx
       rcases hx with hx|hx
       ·exact g3 x hx
       ·grind
    ·cases h
   ·cases h
  ·exact aG2 hW h hr hq hu hrk
 ·exact aG2 hW h hr hq hu hrk
def RW.ahn {kd:aXU}{t:aS}(hW:RW G w0 Z0 Z β H w):
  ∃β',(∀k,k<M H->β' k=β k)/\(β'<|M H).b=w.heap.size/\RW G w0 Z0 Z β' (H++[⟨[],t,.mp kd [] [],X⟩]) (w.alloc<|.map #[] 0)/\Below w.heap.size w (w.alloc<|.map #[] 0):=by
 have hbw:Below w.heap.size w (w.alloc<|.map #[] 0):=(Below.refl _ _).alloc (Au _) _
 obtain ⟨β',h1,h2,h3⟩:=(hW.same hbw).Kr (ℓ:=⟨w.heap.size,0,aj⟩) (nb:=⟨[],t,.mp kd [] [],X⟩) rfl ⟨ak,ak⟩ (λ_=>⟨λhz=>cV,hW.below.size,λj bj hj lj e=>T4⟩) (λβ' h1 h2=>by
  simp only [Bb,h2];refine ⟨#[],0,?_,AJ,cg⟩
  show (w.heap.push _)[w.heap.size]? =_
  simp)
 grind
def RW.ahm {e:Ty}{t:aS}(hW:RW G w0 Z0 Z β H w):
  ∃β',(∀k,k<M H->β' k=β k)/\(β'<|M H).b=w.heap.size/\RW G w0 Z0 Z β' (H++[⟨[],t,.st e [],X⟩]) (w.alloc<|.map #[] 0)/\Below w.heap.size w (w.alloc<|.map #[] 0):=by
 have hbw:Below w.heap.size w (w.alloc<|.map #[] 0):=(Below.refl _ _).alloc (Au _) _
 obtain ⟨β',h1,h2,h3⟩:=(hW.same hbw).Kr (ℓ:=⟨w.heap.size,0,aj⟩) (nb:=⟨[],t,.st e [],X⟩) rfl ⟨ak,ak⟩ (λ_=>⟨λhz=>cV,hW.below.size,λj bj hj lj e=>T4⟩) (λβ' h1 h2=>by
  simp only [Bb,h2];refine ⟨#[],0,?_,AJ,AJ⟩
  show (w.heap.push _)[w.heap.size]? =_
  simp)
 grind
end Go.Sx
namespace Go.Sx
open Go Go.RowKit Go.Proofs.YtpdndmobphnjcaaGreatDoor
variable {P : Program} {G : BA} {Γ : Specs} {β : Nat -> Loc} {Z : Nat -> Prop} {Z0 : Gz} {w w0 : World} {F : List LV} {H : List AB} {a : Act} {ds : List Deferred}
abbrev β0:aC->aXS:=λ_=>⟨0,0,aj⟩
def Valid (P:aR) (G:BA) (f:bn) (S:aD->T LV):Prop:=
 ∀(args:aD) (vals:aX) (w:aO) (Z:aC->Prop) (lv:LV),(∀b,Z b->b<w.heap.size)->QI G Z w->AU 0 args->RL β0 Z w args vals.toList->(S args).all (λx=>x=lv)->
  Calls P f vals w λe w'=>Below w.heap.size w w'/\∃v,e=.returned v/\okV 0 lv/\R β0 (λb=>Z b\/(w.heap.size<=b/\b<w'.heap.size)) w' lv v
mutual
def noOwn_ok {n:aC}:∀(x:LV),noOwn x=U->okV n x->okV 0 x
 | .v _,_,_=>trivial
 | .bl _,_,_=>trivial
 | .ki _ _,_,_=>trivial
 | .own _ _,h,_=>oQ
 | .agg l,h,hk=>cQ
 | .AQ l,h,hk=>cQ
 | .fn _ l,h,hk=>cQ
 | .fb _ l,h,hk=>cQ
 | .xq _ _,_,hk=>aQc
 | .os ..,h,_=>oQ
 | .op ..,h,_=>oQ
 | .om _,h,_=>oQ
 | .mp _ _ l,h,hk=>cQ
 | .xl _ _,_,_=>trivial
 | .junk,_,_=>trivial
def noOwnL_ok {n:aC}:∀(x:aD),noOwnL x=U->AU n x->AU 0 x
 | [],_,_=>trivial
 |x::xs,h,hk=>by
  simp only [AU,noOwnL,AY] at*;exact ⟨noOwn_ok x h.1 hk.1,noOwnL_ok xs h.2 hk.2⟩
end
def aG6 {t:T LV}{lv:LV}(h:(R1 t).all λx=>x=lv):t.all (λx=>x=lv)/\SP lv=true:=by
 induction t with
 |ok x=>
  simp only [R1] at h;split at h
  ·rename_i hp;simp only [T.all] at h|-;subst h;exact ⟨rfl,hp⟩
  ·cases h
 |br b t e iht ihe=>
  cases b with
  |true=>obtain ⟨h1,h2⟩:=iht<|h.1 rfl;exact ⟨⟨λ_=>h1,λhb=>LU⟩,h2⟩
  |false=>obtain ⟨h1,h2⟩:=ihe<|h.2 rfl;exact ⟨⟨λhb=>LU,λ_=>h1⟩,h2⟩
 |req p t ih=>
  obtain ⟨h1,h2⟩:=ih h.2;exact ⟨⟨h.1,h1⟩,h2⟩
 |no=>cases h
def P5 (G:BA) (F:aD) (β:aC->aXS) (H:aG) (o:aU):aH:=Dg β H<|Ed G F o
def Post (ds:aXR) (G:BA) (w0:aO) (Z0:Gz) (F:aD) (a:bg) (β:aC->aXS) (H:aG) (w:aO) (o:aU) (lv:LV) (H':aG) (v:aV) (w':aO):Prop:=
 ∃Z' β',RW G w0 Z0 Z' β' H' w'/\RF ds β' Z' w' (M H') F a/\R β' Z' w' lv v/\okV (M H') lv/\
  (M H)<=M H'/\(∀k,k<M H->β' k=β k)/\(∀k,M H<=k->k<M H'->w.heap.size<=(β' k).b\/(β' k).b∈P5 G F β H o)/\De (P5 G F β H o) w w'
def NM {tr:aH}{w w':aO}(h:Below w.heap.size w w'):De tr w w':=⟨h.os,h.tape,h.output,h.size,λk hk _=>h.block k hk⟩
def aFj {o:aU}{lv:LV}{v:aV}(hW:RW G w0 Z0 Z β H w) (hF:RF ds β Z w (M H) F a) (hrun:(execOp a.eval o).run P w=.ok (.value v) w) (hr:R β Z w lv v) (hk:okV (M H) lv):
  Dt P (Post ds G w0 Z0 F a β H w o lv H) ((execOp a.eval o).run P w):=by
 rw [hrun];exact ⟨Z,β,hW,hF,hr,hk,Au _,λ_ _=>rfl,λk h1 h2=>A0,De.refl _ _⟩
def aEs {α:Type}{s:Sem α}{x:α}(h:Li P s=ah x):∀w',s.run P w'=.ok x w':=λw'=>qZ w' h
mutual
def eqV_run:∀(d:aC) (t:aS) (x y:aV) (b:aM),eqV P d t x y=ah b->∀(e:aC) (w:aO),(Go.Op.equalIn (d+e) t x y).run P w=.ok b w
 |0,_,_,_,_,h=>by simp [eqV] at h
 | d+1,t,x,y,b,h=>λe w=>by
  rw [Nat.add_right_comm];simp only [eqV] at h;split at h
  ·rename_i k0 k a k' c hu
   split at h
   ·rename_i hk
    subst hk;simp only [Aj] at h;subst h;exact run_equalIn_int w _ t k k0 a c hu
   ·cases h
  ·rename_i a c hu
   simp only [Aj] at h;subst h;exact run_equalIn_bool w _ t a c hu
  ·rename_i a c hu
   simp only [Aj] at h;subst h;rw [run_equalIn_string w _ t a c hu,beq_toListBytes]
  ·rename_i fs xs ys hu
   split at h
   ·cases h
   ·rename_i hs
    have hf:P.fieldsOf t=fs:=by simp [Program.fieldsOf,hu]
    rw [run_equalIn_struct w _ t xs ys (by rw [hf];exact hu) (by simpa using hs),hf]
    simp only [Option.map_eq_some_iff] at h;obtain ⟨l,h1,h2⟩:=h;rw [<-h2];exact eqFs_run d xs ys fs.toList l h1 e w
  ·cases h
def eqFs_run:∀(d:aC) (xs ys:aX) (fs:aYg) (l:bh),eqFs P d xs ys fs=ah l->∀(e:aC) (w:aO),(Go.Op.eqFields (d+e) xs ys fs).run P w=.ok (Vv l) w
 |d,xs,ys,[],l,h=>λe w=>by
  have:l=[]:=by cases d<;>simpa [eqFs] using h.symm
  subst this
  simp [Go.Op.eqFields,Vv]
 |0,xs,ys,f::fs,l,h=>by simp [eqFs] at h
 | d +1,xs,ys,f::fs,l,h=>λe w=>by
  simp only [eqFs] at h;split at h
  ·cases h
  ·rename_i hn
   split at h
   ·rename_i x y hx hy
    split at h
    ·rename_i p ps hp hps
     simp only [Aj] at h;subst h
     have e1:=aEs hx w
     have e2:=aEs hy w
     have e3:=eqV_run d f.type x y p hp (1+e) w
     have e4:=eqFs_run d xs ys fs ps hps (1+e) w
     rw [<-Hw] at e3 e4;simp only [Go.Op.eqFields,hn,ne_eq,not_false_eq_true,Bu,nD,e1,e2,e3,mr,Sem.run_ite,zO,e4];cases p with
     |false=>cases ps<;>simp [Vv]
     |true=>cases ps<;>simp [Vv]
    ·cases h
   ·cases h
end
def apn {o:aU}{e:aXT->aV}{y:aV}(h:R8 P o.op e=ah (ah y)) (w:aO):(execOp e o).run P w=.ok (.value y) w:=by
 unfold R8 at h;split at h
 ·rename_i op t x z t' ho
  split at h
  ·rename_i neg hneg
   split at h
   ·rename_i xs ys hx hy
    split at h
    ·rename_i g1 b g2 g3
     have e1:=aEs g2 w
     have e2:=eqV_run 100 t _ _ b g3 9900 w
     simp only [Aj] at h;unfold aUl at hneg;split at hneg
     ·simp only [Aj] at hneg
      subst hneg h
      simp [execOp,ho,hx,hy,e1,run_eql_struct,e2]
     ·simp only [Aj] at hneg
      subst hneg h
      simp [execOp,ho,hx,hy,e1,run_neq_struct,e2]
     ·cases hneg
    ·cases h
   ·cases h
  ·cases h
 ·cases h
def aI5 {o:aU}{e:aXT->aV}{y:aV}(h:OW P o e=ah y) (w:aO):(execOp e o).run P w=.ok (.value y) w:=by
 unfold OW at h;split at h
 ·rename_i r hr
  subst h;exact apn hr w
 ·split at h
  ·rename_i z hz
   simp only [Aj] at h;subst h;exact qZ w hz
  ·cases h
def aNH (y:aV):R β Z w (kn y) y:=by cases y<;>simp only [kn,R]
def aXy {n:aC}(y:aV):okV n (kn y):=by cases y<;>trivial
def aes {o:aU}{lv:LV}(hsel:∀cs b,o.op≠ .select cs b) (hW:RW G w0 Z0 Z β H w) (hF:RF ds β Z w (M H) F a) (h:(Dd P G F o).all λx=>x=lv):
  Dt P (Post ds G w0 Z0 F a β H w o lv H) ((execOp a.eval o).run P w):=by
 unfold Dd at h;split at h
 ·rename_i hpl
  split at h
  ·rename_i y hy
   have hcong:execOp a.eval o=execOp (λx=>(pl<|AM G F x).getD undef) o:=ng o hsel λx hx=>by
    have h1:=BO.1 hpl x A8
    obtain ⟨z,hz⟩:=Zu.1 h1;rw [hz];exact Cs hz (hF.eval hW.Cy x).1
   refine aFj hW hF (v:=y) ?_ ?_ ?_
   ·rw [hcong];exact aI5 hy w
   ·rw [<-h]
    split
    ·exact aNH y
    ·exact E4
   ·rw [<-h]
    split
    ·exact aXy y
    ·trivial
  ·cases h
 ·cases h
def aFf {c x y lv:LV}{vc vx vy:aV}{n:aC}(h:(kY c x y).all λz=>z=lv) (hc:R β Z w c vc) (hx:R β Z w x vx) (hy:R β Z w y vy) (kx:okV n x) (ky:okV n y):
  ∃g,vc=.bool g/\R β Z w lv (if g then vx else vy)/\okV n lv:=by
 unfold kY at h;split at h
 ·simp only [T.all] at h;subst h;exact ⟨U,hc,hx,kx⟩
 ·simp only [T.all] at h;subst h;exact ⟨X,hc,hy,ky⟩
 ·rename_i g
  refine ⟨g,hc,?_⟩
  have hx':=Qw hx
  have hy':=Qw hy
  split at h
  ·rename_i h1 h2
   split at h
   ·rename_i hk;simp only [T.all] at h;subst h hk;rw [h1] at hx';rw [h2] at hy';simp only [R] at hx' hy'|-;subst hx' hy';exact ⟨A8,ak⟩
   ·cases h
  ·rename_i h1 h2
   simp only [T.all] at h;subst h;rw [h1] at hx';rw [h2] at hy';simp only [R] at hx' hy'|-;subst hx' hy';exact ⟨A8,ak⟩
  ·simp only [T.all] at h
   cases g with
   |true=>have:=h.1 rfl;subst this;exact ⟨hx,kx⟩
   |false=>have:=h.2 rfl;subst this;exact ⟨hy,ky⟩
 ·cases h
def aFw {t:aS}{l:aD}{lv:LV}{ys:aX}{i n:aC}(h:(yS P t l i).all λz=>z=lv) (hr:RL β Z w l ys.toList) (hk:AU n l):
  ∃z,(∀w',(Instr.field t (.agg ys) i).run P w'=.ok z w')/\R β Z w lv z/\okV n lv:=by
 unfold yS at h;split at h
 ·rename_i fs hu
  split at h
  ·rename_i f hf
   split at h
   ·rename_i m ha hs
    split at h
    ·simp only [T.all] at h
     subst h;refine ⟨.agg<|ys.extract f.offset<|f.offset+m,λw'=>?_,WT ?_,Ql<|hk.take_drop _ _⟩
     ·simp [Instr.field,Cj hu,hf,asAgg,part,eW ha,run_sizeOf hs]
     ·have:=hr.take_drop f.offset m
      simp_all
    ·cases h
   ·rename_i ha
    split at h
    ·rename_i y hy
     subst h;obtain ⟨z,e4,e5⟩:=RL.get _ _ hr hy
     have e6:ys[f.offset]? =ah z:=A8
     refine ⟨z,λw'=>?_,e5,AU.get _ _ hk hy⟩
     simp [Instr.field,Cj hu,hf,asAgg,part,eW ha,e6]
    ·cases h
   ·cases h
  ·cases h
 ·cases h
def adU {s:aS}{x lv:LV}{y:aV}{i n:aC}(h:(Wz P s x i).all λz=>z=lv) (hr:R β Z w x y) (hk:okV n x):
  ∃z,(∀w',(Instr.fieldAt s y i).run P w'=.ok z w')/\R β Z w lv z/\okV n lv:=by
 unfold Wz at h;split at h
 ·rename_i fs hu
  split at h
  ·rename_i f hf
   split at h
   ·rename_i m hsz
    have e1:=λw=>run_sizeOf hsz w
    split at h
    ·rename_i k off
     simp only [R] at hr;refine ⟨.pointer<|ah ⟨(β k).b,off+f.offset,aj⟩,λw'=>?_,?_,?_⟩
     ·simp [Instr.fieldAt,Cj hu,hf,Instr.sureAddr,hr,fieldPlace,e1,addr_add]
     ·rw [<-h];simp only [R]
     ·rw [<-h];simpa only [okV] using hk
    ·rename_i k es i' j
     obtain ⟨hcap,hr⟩:=hr;refine ⟨.pointer<|ah ⟨(β k).b,(β k).o+i'*es+(j+f.offset),aj⟩,λw'=>?_,?_,?_⟩
     ·simp [Instr.fieldAt,Cj hu,hf,Instr.sureAddr,hr,fieldPlace,e1,addr_add,Hw]
     ·rw [<-h];simp only [R];exact ⟨hcap,ak⟩
     ·rw [<-h];simpa only [okV] using hk
    ·rename_i q g
     split at h
     ·rename_i hle
      obtain ⟨b,off,h1,h2,h3⟩:=hr;refine ⟨.pointer<|ah ⟨b,off+f.offset,aj⟩,λw'=>?_,?_,?_⟩
      ·simp [Instr.fieldAt,Cj hu,hf,Instr.sureAddr,h1,fieldPlace,e1,addr_add]
      ·rw [<-h]
       refine ⟨b,off+f.offset,rfl,h2,λj hj=>?_⟩
       have:=h3 (f.offset+j) A0
       grind
      ·rw [<-h];simp only [okV] at hk|-;exact λj=>hk _
     ·cases h
    ·cases h
   ·cases h
  ·cases h
 ·cases h
def dv {n:Y}{g:aC->LV}{lv:LV}:∀(m j:aC),(chain n g m j).all (λz=>z=lv)->∃i,j<=i/\i<j+m/\n=(i:Y)/\lv=g i
 |0,j,h=>As
 | m+1,j,h=>by
  simp only [chain,T.all] at h
  by_cases hn:n=(j:Y)
  ·grind
  ·obtain ⟨i,h1,h2,h3,h4⟩:=dv m (j+1) (h.2 A8)
   grind
def aGE {x:LV}{y:aV}{l:aD}{n:aC}(h:yq x=ah l) (hr:R β Z w x y) (hk:okV n x):∃ys:aX,y=.agg ys/\RL β Z w l ys.toList/\AU n l:=by
 unfold yq at h;split at h
 ·obtain rfl:=Ej h
  obtain ⟨ys,e1,e2⟩:=hr;exact ⟨ys,e1,e2,hk⟩
 ·rename_i ys
  obtain rfl:=Ej h;exact ⟨ys,hr,V4 _,Tu _ _⟩
 ·cases h
def aG3 {t:aS}{l:aD}{q lv:LV}{ys:aX}{z:aV}{n:aC}(h:(yO P t l q).all λr=>r=lv) (hr:RL β Z w l ys.toList) (hk:AU n l) (hq:R β Z w q z):
  ∃v,(∀w',(Instr.index t (.agg ys) z).run P w'=.ok v w')/\R β Z w lv v/\okV n lv:=by
 unfold yO at h;split at h
 ·rename_i len e k j hu
  split at h
  ·rename_i y ha hs hy
   split at h
   ·rename_i hb
    subst h;simp only [R] at hq;obtain ⟨v,e4,e5⟩:=RL.get _ _ hr hy
    have e6:ys[j.toNat]? =ah v:=A8
    refine ⟨v,λw'=>?_,e5,AU.get _ _ hk hy⟩
    simp [Instr.index,hq,asIntOf,Cj hu,hb.1,hb.2,part,eW ha,run_sizeOf hs,e6]
   ·cases h
  ·cases h
 ·cases h
def aEq {t:aS} {x q lv:LV} {y z:aV} {c:aM} {N:aC} (h:(R3 P t x c q).all λr=>r=lv) (hr:R β Z w x y) (hq:R β Z w q z) (hk:okV N x):
  ∃v,(∀w',(Instr.indexAt t y z).run P w'=.ok v w')/\R β Z w lv v/\okV N lv:=by
 unfold R3 at h;simp only [axL] at h;split at h
 ·rename_i kd n hpl
  have hz:=Cs hpl hq
  split at h
  ·rename_i len e hu
   split at h
   ·rename_i m hsz
    have e1:=λw=>run_sizeOf hsz w
    have fin:∀(b off i:aC),i<len->n=(i:Y)->y=.pointer (ah ⟨b,off,aj⟩)->∀w',(Instr.indexAt t y z).run P w'=.ok (.pointer<|ah ⟨b,off+i*(m+1),aj⟩) w':=λb off i hi hn hy w'=>by
     have h0:(0:Y)<=n:=A0
     have h1:n<(len:Y):=A0
     have h2:n.toNat=i:=A0
     simp [Instr.indexAt,hz,asIntOf,Cj hu,hy,Instr.sureAddr,h0,h1,e1,addr_add,h2]
    have own:∀(k off i:aC),i<len->n=(i:Y)->R β Z w (.own k off) y->okV N (.own k off)->lv=.own k (off+i*(m+1))->∃v,(∀w',(Instr.indexAt t y z).run P w'=.ok v w')/\R β Z w lv v/\okV N lv:=λk off i hi hn hr hk hl=>by
     simp only [R] at hr;refine ⟨_,fin _ _ i hi hn hr,?_,?_⟩
     ·rw [hl];simp only [R]
     ·exact aA3
    have opp:∀(k es i' j i:aC),i<len->n=(i:Y)->R β Z w (.op k es i' j) y->okV N (.op k es i' j)->lv=.op k es i' (j+i*(m+1))->∃v,(∀w',(Instr.indexAt t y z).run P w'=.ok v w')/\R β Z w lv v/\okV N lv:=λk es i' j i hi hn hr hk hl=>by
     simp only [R] at hr;refine ⟨_,fin _ _ i hi hn hr.2,?_,?_⟩
     ·rw [hl];simp only [R,Hw];exact ⟨hr.1,ak⟩
     ·exact aA3
    have ext:∀(q:aC) (g:aC->LV) (i:aC),i<len->len*(m+1)<=q->n=(i:Y)->R β Z w (.xq q g) y->okV N (.xq q g)->lv=.xq (m+1) (λj=>g<|i*(m+1)+j)->∃v,(∀w',(Instr.indexAt t y z).run P w'=.ok v w')/\R β Z w lv v/\okV N lv:=λq g i hi hle hn hr hk hl=>by
     simp only [R] at hr;obtain ⟨b,off,h1,h2,h3⟩:=hr;refine ⟨_,fin _ _ i hi hn h1,?_,?_⟩
     ·rw [hl]
      simp only [R];refine ⟨b,_,rfl,h2,λj hj=>?_⟩
      have hm:i*(m+1)+(m+1)<=len*(m+1):=by
       have:=NA (m+1) (show i+1<=len by omega)
       rwa [GM,Sw] at this
      have:=h3 (i*(m+1)+j) A0
      rwa [<-Hw] at this
     ·rw [hl];simp only [okV] at hk|-;exact λj=>hk _
    split at h
    ·rename_i k es i' j
     split at h
     ·split at h
      ·rename_i hb
       simp only [T.all] at h;exact opp k es i' j n.toNat A0 A0 hr hk h.symm
      ·cases h
     ·obtain ⟨i,_,h2,h3,h4⟩:=dv _ _ h
      exact opp k es i' j i A0 h3 hr hk h4
    ·rename_i k off
     split at h
     ·split at h
      ·rename_i hb
       simp only [T.all] at h;exact own k off n.toNat A0 A0 hr hk h.symm
      ·cases h
     ·obtain ⟨i,_,h2,h3,h4⟩:=dv _ _ h
      exact own k off i A0 h3 hr hk h4
    ·rename_i q g
     split at h
     ·rename_i hle
      split at h
      ·split at h
       ·rename_i hb
        simp only [T.all] at h;exact aPL
       ·cases h
      ·split at h
       ·obtain ⟨i,_,h2,h3,h4⟩:=dv _ _ h
        exact ext q g i A0 hle h3 hr hk h4
       ·simp only [T.all] at h
        obtain ⟨⟨b1,b2⟩,h⟩:=h;exact aPL
     ·cases h
    ·cases h
   ·cases h
  ·rename_i e hu
   split at h
   ·rename_i m e' l hsz
    split at h
    ·rename_i hes
     simp only [T.all] at h;obtain ⟨⟨h0,h1⟩,h2⟩:=h;simp only [R] at hr;obtain ⟨ad,cap,g1,gc,g2⟩:=hr;obtain ⟨b,off,g3,g4,g5⟩:=g2 A0
     have e1:=λw=>run_sizeOf hsz w
     have hlt:n.toNat<M l:=A0
     have hgx:l[n.toNat]? =ah (gx l n):=A8
     have g6:=g5 n.toNat _ hgx
     refine ⟨.pointer<|ah ⟨b,off+n.toNat*(m+1),aj⟩,λw'=>?_,?_,?_⟩
     ·simp [Instr.indexAt,hz,asIntOf,Cj hu,g1,g3,h0,h1,e1,addr_add]
     ·rw [<-h2]
      simp only [R];refine ⟨b,_,rfl,g4,λj hj=>?_⟩
      rw [hes] at g6
      have hjl:j<M (Bx e'<|gx l n):=aAd
      exact To e' _ b _ g6 j _<|getD_lt hjl
     ·rw [<-h2]
      simp only [okV];exact λj=>gA (Na 0 e' _) j
    ·cases h
   ·rename_i m k es off len hsz
    split at h
    ·rename_i hes
     simp only [T.all] at h;obtain ⟨⟨h0,h1⟩,h2⟩:=h
     have e1:=λw=>run_sizeOf hsz w
     simp only [R] at hr;split at hr
     ·obtain ⟨rfl,_,_⟩:=hr
      exact absurd h1 DK
     ·rename_i c hcap
      obtain ⟨g1,ad,g2,g3⟩:=hr
      have g3:=g3 A0
      refine ⟨.pointer<|ah ⟨(β k).b,(β k).o+(off+n.toNat)*es+0,aj⟩,λw'=>?_,?_,?_⟩
      ·simp [Instr.indexAt,hz,asIntOf,Cj hu,g2,g3,h0,h1,e1,addr_add,hes,GM,Hw]
      ·rw [<-h2];simp only [R];exact ⟨by rw [hcap];simp,ak⟩
      ·rw [<-h2];simpa only [okV] using hk
    ·cases h
   ·rename_i m k es off len cp hsz
    split at h
    ·rename_i hes
     have e1:=λw=>run_sizeOf hsz w
     have own:∀(i:aC),i<len->n=(i:Y)->lv=.own k ((off+i)*(m+1))->∃v,(∀w',(Instr.indexAt t y z).run P w'=.ok v w')/\R β Z w lv v/\okV N lv:=λi hi hn hl=>by
      simp only [R] at hr;obtain ⟨g1,ad,g2,g3⟩:=hr
      have g3:=g3 A0
      have h0:(0:Y)<=n:=A0
      have h1:n<(len:Y):=A0
      have h2:n.toNat=i:=A0
      refine ⟨.pointer<|ah ⟨(β k).b,(off+i)*(m+1),aj⟩,λw'=>?_,?_,?_⟩
      ·simp [Instr.indexAt,hz,asIntOf,Cj hu,g2,g3,h0,h1,e1,addr_add,hes,GM,h2]
      ·rw [hl];simp only [R]
      ·exact aA3
     split at h
     ·split at h
      ·rename_i hb
       simp only [T.all] at h;exact own n.toNat A0 A0 h.symm
      ·cases h
     ·obtain ⟨i,_,h2,h3,h4⟩:=dv _ _ h
      exact own i A0 h3 h4
    ·cases h
   ·cases h
  ·cases h
 ·cases h
def aHn (off:aC):∀(l:aT) (s:aC) (zs:aX) (i:aC),off+s+M l<=zs.size->
  ((l.zipIdx s).foldl (λ(cs:aX) p=>cs.setIfInBounds (off+p.2) p.1) zs).size=zs.size/\
  ((l.zipIdx s).foldl (λ(cs:aX) p=>cs.setIfInBounds (off+p.2) p.1) zs)[i]? =if off+s<=i/\i<off+s+M l then l[i-(off+s)]? else zs[i]?
 | [],s,zs,i,_=>by simp;intro h1 h2;omega
 | x::xs,s,zs,i,h=>by
  simp only [List.zipIdx_cons,KK];obtain ⟨h1,h2⟩:=aHn off xs (s+1) (zs.setIfInBounds (off+s) x) i A8;refine ⟨A8,?_⟩;rw [h2];simp only [Bm] at h|-
  by_cases hi:i=off+s
  ·subst hi
   rw [AE A0,AD A0,Array.getElem?_setIfInBounds,AD rfl,AD A0]
   simp
  ·by_cases hr:off+(s+1)<=i/\i<off+(s+1)+M xs
   ·rw [AD hr,AD A0]
    grind
   ·rw [AE hr,AE A0]
    grind
def aem (off:aC) (vs zs:aX) (h:off+vs.size<=zs.size):
  (vs.zipIdx.foldl (λ(cs:aX) (p:Value×Nat)=>cs.setIfInBounds (off+p.2) p.1) zs).toList=zs.toList.take off++vs.toList++zs.toList.drop (off+M vs.toList):=by
 have e:vs.zipIdx.foldl (λ(cs:aX) (p:Value×Nat)=>cs.setIfInBounds (off+p.2) p.1) zs=(vs.toList.zipIdx 0).foldl (λ(cs:aX) p=>cs.setIfInBounds (off+p.2) p.1) zs:=by
  rw [<-Array.foldl_toList];simp
 rw [e]
 apply List.ext_getElem?
 intro i
 have:=(aHn off vs.toList 0 zs i A8).2
 rw [Array.getElem?_toList,this];simp only [bF,zI]
 by_cases h1:i<off
 ·grind
 ·by_cases h2:i<off+vs.size
  ·rw [AD A0,Cw,Gp A8,I1 A8]
   grind
  ·rw [AE A0,Gp A8,FR]
   simp
   congr 1
   omega
def du {place:aC->aX9}{n:aC}:∀(pl:bq) (pv:List<|Nat×Value) (cells cs:aD) (zs:aX),Kn place cells pl=ah cs->pv.map (·.1)=pl.map (·.1)->
  RL β Z w (pl.map (·.2)) (pv.map (·.2))->AU n (pl.map (·.2))->RL β Z w cells zs.toList->AU n cells->∃zs',Instr.fill place zs pv=ah zs'/\RL β Z w cs zs'.toList/\AU n cs
 | [],pv,cells,cs,zs,h,hp,hr,_,hc,hok=>by
  simp only [Kn,Aj] at h;subst h
  have:pv=[]:=GN
  subst this;exact ⟨zs,rfl,hc,hok⟩
 | (i,x)::rest,pv,cells,cs,zs,h,hp,hr,hk,hc,hok=>by
  cases pv with
  |nil=>simp at hp
  | cons q qs=>
   obtain ⟨i',v⟩:=q;simp only [ES,Hv] at hp;obtain ⟨rfl,hp'⟩:=hp;obtain ⟨y,ys,e1,e2,e3⟩:=hr;obtain ⟨rfl,rfl⟩:=e1;simp only [Kn] at h;split at h
   ·rename_i off size c hpl hcl
    split at h
    ·rename_i hle
     obtain ⟨c1,c2⟩:=sB hcl e2
     have c3:=rJ hcl hk.1
     have l1:=RL.length c1
     have l2:=RL.length hc
     have hle2:off+v.cells.size<=zs.size:=A8
     have hset:=aem off v.cells zs hle2
     have hrl:=RL.setAt hc c1 off
     rw [<-hset] at hrl;obtain ⟨zs',f1,f2,f3⟩:=du rest qs _ cs _ h hp' e3 hk.2 hrl<|AU.setAt hok c3 off;refine ⟨zs',?_,f2,f3⟩;simp only [Instr.fill,hpl]
     grind
    ·cases h
   ·cases h
def adV {t:aS}{pl:bq}{pv:aX2}{lv:LV}{n:aC}(h:(Nk P t pl).all λz=>z=lv) (hp:pv.toList.map (·.1)=pl.map (·.1)) (hr:RL β Z w (pl.map (·.2))<|pv.toList.map (·.2)) (hk:AU n<|pl.map (·.2)):
  ∃v,(∀w',(Instr.build t pv).run P w'=.ok v w')/\R β Z w lv v/\okV n lv:=by
 unfold Nk at h;split at h
 ·rename_i z pf hz hpf
  split at h
  ·rename_i cs hcs
   obtain ⟨zs',f1,f2,f3⟩:=du (β:=β) (Z:=Z) (w:=w) (n:=n) pl pv.toList _ cs z.cells hcs hp hr hk (V4 _)<|Tu _ _;refine ⟨.agg zs',λw'=>run_build w' t pv zs' ?_,?_,?_⟩
   ·unfold Ik at hz
    unfold aRs at hpf;unfold Program.built;cases hi:P.info? t with
    |none=>simp [hi] at hz
    | some it=>
     simp only [hi,Oh] at hz;split at hpf
     ·rename_i fields hu
      cases hm:fields.toList.mapM (λf=>(P.info? f.type).map λi=>(f.offset,i.size)) with
      |none=>simp [hm] at hpf
      |some ps=>
       simp only [hm,Jn,Aj] at hpf;simp only [hu,hz,hm];rw [<-hpf] at f1;exact f1
     ·rename_i e hu
      cases hm:P.info? e with
      |none=>simp [hm] at hpf
      |some ie=>
       simp only [hm,Jn,Aj] at hpf;simp only [hu,hz,hm];rw [<-hpf] at f1;exact f1
     ·cases hpf
   ·rw [<-h]
    split
    ·simp only [R];exact ⟨zs',rfl,f2⟩
    ·exact WT f2
   ·rw [<-h]
    split
    ·exact f3
    ·exact Ql f3
  ·cases h
 ·cases h
def gp {x:aXT}{y:aV}{n:aC}(h:R β Z w (AM G F x) y/\okV n (AM G F x)):R β Z w (IC G F x) y/\okV n (IC G F x):=by
 cases x with
 |const v=>exact ⟨Qw h.1,Wh h.2⟩
 |tmp t=>exact h
 |global g=>exact h
 |func f=>exact h
def xK (e:Ty):∀(n:aC) (cs:aD) (l:List e.D) (ys:aT),dC e n cs=ah l->RL β Z w cs ys->M l=n/\∀(Z':aC->Prop) (w':aO) (b o:aC),(∀b,Z b->Z' b)->(∀b,Z b->w'.heap[b]? =w.heap[b]?)->(∀(j:aC) v,ys[j]? =ah v->w'.cell? ⟨b,o+j,aj⟩=ah v)->∀(i:aC) (d:e.D),l[i]? =ah d->RD Z' w' e d b (o+i*e.n)
 |0,cs,l,ys,h,hr=>by
  simp only [dC,Aj] at h
  grind
 | n +1,cs,l,ys,h,hr=>by
  simp only [dC] at h;split at h
  ·rename_i d r hd hr'
   simp only [Aj] at h;subst h
   have h1:RL β Z w (cs.take e.n) (ys.take e.n):=by simpa using hr.take_drop 0 e.n
   have h2:RL β Z w (cs.drop e.n) (ys.drop e.n):=by
    refine RL.Cm (by simp [RL.length hr]) λi z hz=>?_
    rw [FR] at hz|-;exact RL.get _ _ hr hz
   obtain ⟨k1,k2⟩:=xK e n _ r _ hr' h2;refine ⟨A8,λZ' w' b o hZ hw hc i d' hd'=>?_⟩
   cases i with
   |zero=>
    simp at hd'
    subst hd';rw [nf,bF];refine xL hZ hw e _ d _ hd h1 b o λj v hv=>?_
    rw [LN] at hv;split at hv
    ·grind
    ·cases hv
   | succ i=>
    have:=k2 Z' w' b (o+e.n) hZ hw (λj v hv=>by
     rw [FR] at hv
     have:=hc (e.n+j) v hv
     rwa [<-Hw] at this) i d' hd'
    grind
  ·cases h
def aFz {t:aS}{len:aC}{pl:bq}{pv:aX2}{lv:LV}{n:aC}(h:(L8 P t len pl).all λz=>z=lv) (hp:pv.toList.map (·.1)=pl.map (·.1)) (hr:RL β Z w (pl.map (·.2))<|pv.toList.map (·.2)) (hk:AU n<|pl.map (·.2)):
  ∃elem cells,(∀w',(Instr.buildSlice t len pv).run P w'=.ok (.slice (ah ⟨w'.heap.size,0,aj⟩) len len) (w'.alloc<|.cells cells elem))/\
   (∀(β':aC->aXS) (Z':aC->Prop) (w':aO) (b:aC),(∀b,Z b->Z' b)->(∀b,Z b->w'.heap[b]? =w.heap[b]?)->(∀(j:aC) v,cells.toList[j]? =ah v->w'.cell? ⟨b,0+j,aj⟩=ah v)->Z' b->R β' Z' w' lv (.slice (ah ⟨b,0,aj⟩) len len))/\okV n lv:=by
 unfold L8 at h;split at h
 ·rename_i e hu
  split at h
  ·rename_i ty m z hty hsz hz
   split at h
   ·rename_i hcond
    split at h
    ·rename_i cs hcs
     split at h
     ·rename_i l hl
      have hz0:RL β Z w ((au<|len*m).map λi=>LV.v<|z.cells[i%z.cells.size]!) ((Array.range<|len*m).map λi=>z.cells[i%z.cells.size]!).toList:=by
       exact zX
      have hok0:AU n ((au<|len*m).map λi=>LV.v<|z.cells[i%z.cells.size]!):=by
       exact aP1
      obtain ⟨zs',f1,f2,f3⟩:=du (β:=β) (Z:=Z) (w:=w) (n:=n) pl pv.toList _ cs _ hcs hp hr hk hz0 hok0;obtain ⟨k1,k2⟩:=xK ty len cs l _ hl f2;refine ⟨e,zs',λw'=>?_,λβ' Z' w' b hZ hw hc hzb=>?_,by rw [<-h];trivial⟩
      ·exact zZ
      ·rw [<-h]
       refine ⟨_,len,by rw [k1],A0,λ_=>⟨b,0,rfl,hzb,λi d hd=>?_⟩⟩
       exact k2 Z' w' b 0 hZ hw hc i d hd
     ·cases h
    ·cases h
   ·cases h
  ·cases h
 ·cases h
def aGu {place:aC->aX9}:∀ {pl:bq}{cells cs:aD},Kn place cells pl=ah cs->M cs=M cells
 | [],cells,cs,h=>by
  simp only [Kn,Aj] at h;rw [h]
 | (i,x)::rest,cells,cs,h=>by
  simp only [Kn] at h;split at h
  ·split at h
   ·rename_i off size c _ _ hcond
    rw [aGu h];simp only [setAt,BG,MG,FQ];omega
   ·cases h
  ·cases h
def aqt {t e:aS}{ty:Ty}{l:List ty.D}{len:aC}{pl:bq}{pv:aX2}{n:aC}(hu:P.underlying t=ah (.slice e)) (h:(L8 P t len pl).all λz=>z=.xl ty l) (hp:pv.toList.map (·.1)=pl.map (·.1)) (hr:RL β Z w (pl.map (·.2))<|pv.toList.map (·.2)) (hk:AU n<|pl.map (·.2)):
  ∃cells:aX,(∀w',(Instr.buildSlice t len pv).run P w'=.ok (.slice (ah ⟨w'.heap.size,0,aj⟩) len len) (w'.alloc<|.cells cells e))/\M l=len/\cells.size=len*ty.n/\
   (∀(w':aO) (b:aC),(∀b,Z b->w'.heap[b]? =w.heap[b]?)->(∀(j:aC) v,cells.toList[j]? =ah v->w'.cell? ⟨b,0+j,aj⟩=ah v)->∀(i:aC) (d:ty.D),l[i]? =ah d->RD Z w' ty d b (0+i*ty.n)):=by
 unfold L8 at h;rw [hu] at h;simp only at h;split at h
 ·rename_i ty0 m z hty hsz hz
  split at h
  ·rename_i hcond
   split at h
   ·rename_i cs hcs
    split at h
    ·rename_i l0 hl
     simp only [T.all,LV.xl.injEq] at h;obtain ⟨rfl,h⟩:=h;obtain rfl:=eq_of_heq h
     have hz0:RL β Z w ((au<|len*m).map λi=>LV.v<|z.cells[i%z.cells.size]!) ((Array.range<|len*m).map λi=>z.cells[i%z.cells.size]!).toList:=by
      exact zX
     have hok0:AU n ((au<|len*m).map λi=>LV.v<|z.cells[i%z.cells.size]!):=by
      exact aP1
     obtain ⟨zs',f1,f2,f3⟩:=du (β:=β) (Z:=Z) (w:=w) (n:=n) pl pv.toList _ cs _ hcs hp hr hk hz0 hok0;obtain ⟨k1,k2⟩:=xK ty0 len cs l0 _ hl f2
     have hcl:=aGu hcs
     have hsz2:zs'.size=len*m:=by
      have:=RL.length f2
      grind
     refine ⟨zs',λw'=>?_,k1,A8,λw' b hw hc i d hd=>k2 Z w' b 0 (λ_ h=>h) hw hc i d hd⟩
     exact zZ
    ·cases h
   ·cases h
  ·cases h
 ·cases h
def aef {t:aS}{len:aC}{vs:bq}{pv:aX2}{lv:LV}{H':aG}(hW:RW G w0 Z0 Z β H w) (h:(dA P H t len vs).all λq=>q=(lv,H')) (hp:pv.toList.map (·.1)=vs.map (·.1))
  (hargs:RL β Z w (vs.map (·.2))<|pv.toList.map (·.2)) (hoka:AU (M H)<|vs.map (·.2)):
  ∃w' v Z' β',(Instr.buildSlice t len pv).run P w=.ok v w'/\Below w.heap.size w w'/\(∀b,Z b->Z' b)/\(∀k,k<M H->β' k=β k)/\RW G w0 Z0 Z' β' H' w'/\R β' Z' w' lv v/\okV (M H') lv/\M H'=M H+1/\(β'<|M H).b=w.heap.size:=by
 unfold dA at h;split at h
 ·rename_i hcl
  obtain ⟨y,h1,h2⟩:=T.B7 h;obtain ⟨_,hg,h1⟩:=T.B7 h1;split at h2
  ·rename_i e ty l hu _
   obtain ⟨rfl,rfl⟩:=h2
   have hG:=T.BQ (K':=λ_=>True) (λ_ _=>trivial) hg
   obtain ⟨c1,c2⟩:=T9 hcl
   have hP:=hW.pub<|reach H 64 (ownsL<|vs.map (·.2)) []
   have hH:=λk b hb=>(hW.blk k b hb).2
   have hr0:RL β (ZP Z β H λk=>k∈reach H 64 (ownsL<|vs.map (·.2)) []) w ((vs.map (·.2)).map<|C8 H 6) (pv.toList.map (·.2)):=
    TR (S:=λk=>k∈reach H 64 (ownsL<|vs.map (·.2)) []) hargs hoka c1 (λx y hm hs hx hr=>Mf hW c2 6 x y (Ox hG x hm) hs hx hr)
   have hok0:AU 0 ((vs.map (·.2)).map<|C8 H 6):=by
    exact aOL
   have emap:(vs.map λq=>(q.1,C8 H 6 q.2)).map (·.2)=(vs.map (·.2)).map (C8 H 6):=AJ
   obtain ⟨cells,e1,e2,e3,e4⟩:=aqt (β:=β) (Z:=ZP Z β H λk=>k∈reach H 64 (ownsL<|vs.map (·.2)) []) (w:=w) (n:=0) (pv:=pv) hu h1 GN (by rw [emap];exact hr0) (by rw [emap];exact hok0)
   have hbw:Below w.heap.size w (w.alloc<|.cells cells e):=(Below.refl _ _).alloc (Au _) _
   have hblk:(w.alloc<|.cells cells e).heap[w.heap.size]? =ah (.cells cells e (0,0)):=by
    exact cC
   obtain ⟨β',b1,b2,b3⟩:=(hP.same hbw).Kr (ℓ:=⟨w.heap.size,0,ah len⟩) (nb:=⟨[],e,.vec ty l,X⟩) rfl ⟨ak,ak⟩
    (λ_=>⟨λhz=>by have:=hP.Bc _ hz;simp only at this;omega,hW.below.size,λj bj hj lj e=>by have:=hP.lt hj lj;simp only at e;omega⟩) (λβ' g1 g2=>by
     simp only [Bb,g2];refine ⟨cells,hblk,A0,A0,λj d' hd'=>?_⟩
     exact e4 _ w.heap.size (λb hz=>EJ hbw<|hP.Bc b hz) (λj v hv=>by
      simpa using hv) j d' hd')
   simp only [KP] at b1 b2 b3;exact ⟨_,_,_,β',e1 w,hbw,λ_ h=> .inl h,b1,b3,aPj,by simp [okV,KP],by simp [KP],Vf⟩
  ·cases h2
 ·cases h
def aeh {t:aS}{len:aC}{pl:bq}{pv:aX2}{lv:LV}{H':aG}(hW:RW G w0 Z0 Z β H w) (h:(pX P H t len pl).all λq=>q=(lv,H')) (hp:pv.toList.map (·.1)=pl.map (·.1)) (hr:RL β Z w (pl.map (·.2))<|pv.toList.map (·.2)) (hk:AU (M H)<|pl.map (·.2)):
  ∃w' v,(Instr.buildSlice t len pv).run P w=.ok v w'/\Below w.heap.size w w'/\∃β',(∀k,k<M H->β' k=β k)/\RW G w0 Z0 Z β' H' w'/\R β' Z w' lv v/\okV (M H') lv/\M H'=M H+1/\(β'<|M H).b=w.heap.size:=by
 unfold pX at h;split at h
 ·rename_i e hu
  split at h
  ·rename_i m z hsz hz
   split at h
   ·rename_i hc
    split at h
    ·rename_i cs hcs
     obtain ⟨rfl,rfl⟩:=h
     have hz0:RL β Z w ((au<|len*m).map λi=>LV.v<|z.cells[i%z.cells.size]!) ((Array.range<|len*m).map λi=>z.cells[i%z.cells.size]!).toList:=by
      exact zX
     have hok0:AU (M H) ((au<|len*m).map λi=>LV.v<|z.cells[i%z.cells.size]!):=by
      have:=Tu (M H)<|(au<|len*m).map λi=>z.cells[i%z.cells.size]!
      simpa [HM,Zp] using this
     obtain ⟨zs',f1,f2,f3⟩:=du (β:=β) (Z:=Z) (w:=w) (n:=M H) pl pv.toList _ cs _ hcs hp hr hk hz0 hok0;obtain ⟨β',b1,b2,b3,b4⟩:=hW.alloc (t:=e) f2 f3
     have hbw:Below w.heap.size w (w.alloc<|.cells zs' e):=(Below.refl _ _).alloc (Au _) _
     refine ⟨w.alloc<|.cells zs' e,.slice (ah ⟨w.heap.size,0,aj⟩) len len,?_,hbw,β',b1,b3,?_,MN,AJ,b2⟩
     ·exact zZ
     ·simp only [R,b2]
      grind
    ·cases h
   ·cases h
  ·cases h
 ·cases h
def fM {o:aU}{g:bn}{l:aD}{lv:LV}{H':aG}(h:(Nw P Γ H o g l).all λq=>q=(lv,H')):∃fn S,P.funcs[g]? =ah fn/\¬fn.body=aj/\¬fn.name= "runtime.NumGoroutine"/\Γ g=ah S/\
  (if noOwnL l then (S l).bind λy=>(T.ok (y,H):T<|LV×List AB)
      else if Lj P 8 o.type then ((GU (EX H 6) l).bind λ_=>R1<|S<|l.map<|C8 H 6).bind λy=> .ok (y,H)
      else if Kb H (reach H 64 (ownsL l) []) l then ((GU (EX H 6) l).bind λ_=>S<|l.map<|C8 H 6).bind λy=> .ok (y,Fw (reach H 64 (ownsL l) []) 0 H) else .no).all (λq=>q=(lv,H')):=by
 unfold Nw at h;split at h
 ·rename_i fn hfn
  split at h
  ·rename_i hb
   split at h
   ·rename_i S hS
    grind
   ·cases h
  ·cases h
 ·cases h
def aqL {o:aU}{lv:LV}(hΓ:∀g S,Γ g=ah S->Valid P G g S) (hW:RW G w0 Z0 Z β H w) (hF:RF ds β Z w (M H) F a) {g:bn}{vals:aX}(hrun:(execOp a.eval o).run P w=.ok (.enter g vals) w)
  {H':aG} {l:aD} (hargs:RL β Z w l vals.toList) (hoka:AU (M H) l) (h:(Nw P Γ H o g l).all λq=>q=(lv,H')):
  Dt P (Post ds G w0 Z0 F a β H w o lv H') ((execOp a.eval o).run P w):=by
 obtain ⟨fn,S,_,_,_,hS,h⟩:=fM h;rw [hrun]
 have hval:=hΓ g S hS
 have hH:=λk b hb=>(hW.blk k b hb).2
 split at h
 ·rename_i hno
  obtain ⟨y,h1,h2⟩:=T.B7 h;simp only [T.all,Az] at h2;obtain ⟨rfl,rfl⟩:=h2
  have hok0:=noOwnL_ok _ hno hoka
  have hr0:RL β0 Z w l (vals).toList:=RL.mono (n:=0) (λ_ hk=>absurd hk A0) (λ_ h=>h) (λ_ _=>rfl) _ _ hok0 hargs
  refine (hval _ _ w Z y hW.Bc hW.Cy hok0 hr0 h1).mono λe w' ⟨hbw,v,he,hk,hr⟩=>⟨v,he,?_⟩
  refine ⟨_,β,hW.call hbw,hF.mono (Au _) (λ_ _=>rfl) (λ_ h=> .inl h) λb hz=>EJ hbw<|hW.Bc b hz,?_,okV.mono (N9 _) _ hk,Au _,λ_ _=>rfl,λk h1 h2=>A0,NM hbw⟩
  exact aOa
 ·have hok0:=aEn hoka (λx hx=>Qj H hH 6 x hx)
  split at h
  ·obtain ⟨y,h1,h2⟩:=T.B7 h
   simp only [T.all,Az] at h2;obtain ⟨rfl,rfl⟩:=h2;obtain ⟨_,hg,h1⟩:=T.B7 h1
   have hG:=T.BQ (K':=λ_=>True) (λ_ _=>trivial) hg
   obtain ⟨h1,h2⟩:=aG6 h1
   have hr0:RL β0 (ZP Z β H λ_=>True) w (l.map<|C8 H 6) (vals).toList:=
    RL.mono (n:=0) (λ_ hk=>absurd hk A0) (λ_ h=>h) (λ_ _=>rfl) _ _ hok0 (TR (S:=λ_=>True) hargs hoka (λ_ _=>trivial) λx y hm hs hx hr=>Mf hW (λ_ _ _ _ _ _=>trivial) 6 x y (Ox hG x hm) hs hx hr)
   have hzo:∀b,ZP Z β H (λ_=>True) b->b<w.heap.size:=λb hz=>by
    exact aOd
   refine (hval _ _ w _ y hzo (hW.Cy.mono (λ_ h=> .inl h) λ_ _=>rfl) hok0 hr0 h1).mono λe w' ⟨hbw,v,he,hk,hr⟩=>⟨v,he,?_⟩
   refine ⟨Z,β,hW.same hbw,hF.mono (Au _) (λ_ _=>rfl) (λ_ h=>h) λb hz=>EJ hbw<|hW.Bc b hz,?_,okV.mono (N9 _) _ hk,Au _,λ_ _=>rfl,λk h1 h2=>A0,NM hbw⟩
   obtain ⟨x,hx⟩:=Zu.1 h2;rw [Cs hx hr];exact aNO hx
  ·split at h
   ·rename_i hcl
    obtain ⟨y,h1,h2⟩:=T.B7 h;simp only [T.all,Az] at h2;obtain ⟨rfl,rfl⟩:=h2;obtain ⟨_,hg,h1⟩:=T.B7 h1
    have hG:=T.BQ (K':=λ_=>True) (λ_ _=>trivial) hg
    obtain ⟨c1,c2⟩:=T9 hcl
    have hP:=hW.pub<|reach H 64 (ownsL l) []
    have hr0:RL β0 (ZP Z β H λk=>k∈reach H 64 (ownsL l) []) w (l.map<|C8 H 6) (vals).toList:=
     RL.mono (n:=0) (λ_ hk=>absurd hk A0) (λ_ h=>h) (λ_ _=>rfl) _ _ hok0 (TR (S:=λk=>k∈reach H 64 (ownsL l) []) hargs hoka c1 λx y hm hs hx hr=>Mf hW c2 6 x y (Ox hG x hm) hs hx hr)
    refine (hval _ _ w _ y hP.Bc hP.Cy hok0 hr0 h1).mono λe w' ⟨hbw,v,he,hk,hr⟩=>⟨v,he,?_⟩
    refine ⟨_,β,hP.call hbw,?_,?_,okV.mono (N9 _) _ hk,by rw [KP];exact Au _,λ_ _=>rfl,λk h1 h2=>by rw [KP] at h2;omega,NM hbw⟩
    ·exact aP2
    ·exact aOa
   ·cases h
def aFR {f:aXT}{args:aX0}{ty:aX8}{o:aU}(ho:o.op=.call {callee:=.value f,args,argTypes:=ty}) {g:bn}{ys:aX}(hy:a.eval f=.func (.func g) #[] ys) {fn:aXX}(hfn:P.funcs[g]? =ah fn) (hb:¬fn.body=aj) (hb3:¬fn.name= "runtime.NumGoroutine") (w:aO):
  (execOp a.eval o).run P w=.ok (.enter g<|args.map a.eval++ys) w:=by
 unfold execOp;simp only [ho]
 simp [resolve,Deferred.ofValue,hy,invoke,callFunc,hfn,hb3,hb]
def aFt {f:aXT}{args:aX0}{ty:aX8}{o:aU}(ho:o.op=.call {callee:=.value f,args,argTypes:=ty}) {g:bn}{ys:aX}(hy:a.eval f=.func (.func g) ys #[]) {fn:aXX}(hfn:P.funcs[g]? =ah fn) (hb:¬fn.body=aj) (hb3:¬fn.name= "runtime.NumGoroutine") (w:aO):
  (execOp a.eval o).run P w=.ok (.enter g<|ys++args.map a.eval) w:=by
 unfold execOp;simp only [ho]
 simp [resolve,Deferred.ofValue,hy,invoke,callFunc,hfn,hb3,hb]
def uc (G:BA) (F:aD) (f:aXT) (args:aX0) (g:bn) (l:aD):Prop:=
 (∃cap,AM G F f=.fn g cap/\l=args.toList.map (λx=>norm<|AM G F x)++cap)\/(∃fs,AM G F f=.fb g fs/\l=fs++args.toList.map (λx=>norm<|AM G F x))\/(AM G F f=.v (.func (.func g) #[] #[])/\l=args.toList.map (λx=>norm<|AM G F x))
def aGB {f:aXT}{args:aX0}{ty:aX8}{o:aU}(ho:o.op=.call {callee:=.value f,args,argTypes:=ty}) (hW:RW G w0 Z0 Z β H w) (hF:RF ds β Z w H.length F a) {g:bn}{l:aD}
  (hf:uc G F f args g l) {fn:aXX} (hfn:P.funcs[g]? =ah fn) (hb:¬fn.body=aj) (hb3:¬fn.name= "runtime.NumGoroutine"):
  ∃vals:aX,(execOp a.eval o).run P w=.ok (.enter g vals) w/\RL β Z w l vals.toList/\AU H.length l:=by
 have hfr:=hF.eval hW.Cy f
 have ha:RL β Z w (args.toList.map λx=>norm<|AM G F x) (args.map a.eval).toList:=by
  exact aOG
 have hk:AU H.length (args.toList.map λx=>norm<|AM G F x):=by
  exact aO1
 rcases hf with ⟨cap,hf,rfl⟩ |⟨fs,hf,rfl⟩ |⟨hf,rfl⟩
 ·rw [hf] at hfr
  obtain ⟨⟨ys,hy,hyr⟩,hcap⟩:=hfr;exact ⟨_,aFR ho hy hfn hb hb3 w,by rw [zJ];exact RL.app ha hyr,AU.append hk hcap⟩
 ·rw [hf] at hfr
  obtain ⟨⟨ys,hy,hyr⟩,hcap⟩:=hfr;exact ⟨_,aFt ho hy hfn hb hb3 w,by rw [zJ];exact RL.app hyr ha,AU.append hcap hk⟩
 ·rw [hf] at hfr
  have hy:=hfr.1
  exact ⟨_,aFR ho hy hfn hb hb3 w,A8,hk⟩
def aGC {f:aXT}{args:aX0}{ty:aX8}{o:aU}{lv:LV}(ho:o.op=.call {callee:=.value f,args,argTypes:=ty}) (hΓ:∀g S,Γ g=ah S->Valid P G g S)
  (hW:RW G w0 Z0 Z β H w) (hF:RF ds β Z w (M H) F a) {g:bn} {l:aD} (hf:uc G F f args g l)
  {H':aG} (h:(Nw P Γ H o g l).all λq=>q=(lv,H')):
  Dt P (Post ds G w0 Z0 F a β H w o lv H') ((execOp a.eval o).run P w):=by
 obtain ⟨fn,S,h1,h2,h3,_⟩:=fM h;obtain ⟨vals,q1,q2,q3⟩:=aGB ho hW hF hf h1 h2 h3;exact aqL hΓ hW hF q1 q2 q3 h
structure Ft (P:aR) (G:BA) (K:aX5):Prop where
 k:∀(w0:aO) (Z0:Gz) (Z:aC->Prop) (β:aC->aXS) (H:aG) (w:aO) (g:bn) (args:aD) (vals:aX) (lv:LV) (H':aG),RW G w0 Z0 Z β H w->RL β Z w args vals.toList->AU (M H) args->(K.k g args H).all (λq=>q=(lv,H'))->
  Calls P g vals w λe w'=>∃v,e=.returned v/\∃Z' β',RW G w0 Z0 Z' β' H' w'/\R β' Z' w' lv v/\okV H'.length lv
 y :∀(w0:aO) (Z0:Gz) (Z:aC->Prop) (β:aC->aXS) (H:aG) (w:aO) (k:aC) (args:aD) (vals:aX) (lv:LV) (H':aG),RW G w0 Z0 Z β H w->RL β Z w args vals.toList->AU (M H) args->(K.y k args H).all (λq=>q=(lv,H'))->
  ∃r:Loop,w.heap[(β k).b]? =ah (.loop r)/\vals.size=r.params.size/\RoundIn Fence.wide 0 P (β k).b r.fn ((r.params.zip vals).foldl (λt (p,v)=>t.setIfInBounds p v) r.tmps) r.assign r.body w
   λe w'=>∃v,e=.returned v/\∃Z' β',RW G w0 Z0 Z' β' H' w'/\R β' Z' w' lv v/\okV H'.length lv
def Qe:Ft P G ER:=⟨λ_ _ _ _ _ _ _ _ _ _ _ _ _ _ h=>As,λ_ _ _ _ _ _ _ _ _ _ _ _ _ _ h=>As⟩
def eY (hΓ:∀g S,Γ g=ah S->Valid P G g S) (hW:RW G w0 Z0 Z β H w) (hF:RF ds β Z w (M H) F a) {o:aU}{lv:LV}{H':aG}
  (h:(Ay P G Γ F H o).all λq=>q=(lv,H')):Dt P (Post ds G w0 Z0 F a β H w o lv H') ((execOp a.eval o).run P w):=by
 have hsel:∀cs b,o.op≠ .select cs b:=λcs b e=>by unfold Ay at h;simp only [e] at h;cases h
 have ev:=λx=>hF.eval hW.Cy x
 have same:∀ {t:T LV},(t.bind λy=>(T.ok (y,H):T<|LV×List AB)).all (λq=>q=(lv,H'))->t.all (λz=>z=lv)/\H'=H:=λh=>by
  obtain ⟨x,h1,h2⟩:=T.B7 h;simp only [T.all,Az] at h2;obtain ⟨rfl,rfl⟩:=h2;exact ⟨h1,rfl⟩
 have gen:(Dd P G F o).all (λz=>z=lv)->H'=H->Dt P (Post ds G w0 Z0 F a β H w o lv H') ((execOp a.eval o).run P w):=λhg e=>by
  subst e;exact aes hsel hW hF hg
 have val:∀ {v:aV},H'=H->(execOp a.eval o).run P w=.ok (.value v) w->R β Z w lv v->okV (M H) lv->Dt P (Post ds G w0 Z0 F a β H w o lv H') ((execOp a.eval o).run P w):=λe hrun hr hk=>by
  subst e;exact aFj hW hF hrun hr hk
 unfold Ay at h;split at h
 ·cases h
 ·exact aNx
 ·exact aNx
 ·rename_i c x y ho
  obtain ⟨h1,h2⟩:=same h;obtain ⟨g,e1,e2,e3⟩:=aFf h1 (ev c).1 (ev x).1 (ev y).1 (ev x).2 (ev y).2;exact val h2 (v:=if g then a.eval x else a.eval y) aQZ e2 e3
 ·rename_i t ho
  split at h
  ·rename_i z hz
   split at h
   ·rename_i cs hcs
    simp only [T.all,Az] at h;obtain ⟨h1,h2⟩:=h;obtain ⟨c1,_⟩:=sB (β:=β) (Z:=Z) (w:=w) hcs (show R β Z w (.v z) z by simp only [R])
    obtain ⟨β',b1,b2,b3,b4⟩:=hW.alloc (t:=t) c1<|rJ hcs trivial
    have hrun:(execOp a.eval o).run P w=.ok (.value<|.pointer<|ah ⟨w.heap.size,0,aj⟩) (w.alloc<|.cells z.cells t):=by
     have e:=λw=>qX hz w
     simp [execOp,ho,Instr.alloc,e,newVar,newRow]
    exact aNh
   ·cases h
  ·cases h
 ·rename_i t x ho
  split at h
  ·rename_i cs hcs
   simp only [T.all,Az] at h;obtain ⟨h1,h2⟩:=h;obtain ⟨c1,_⟩:=sB hcs (ev x).1;obtain ⟨β',b1,b2,b3,b4⟩:=hW.alloc (t:=t) c1<|rJ hcs (ev x).2
   have hrun:(execOp a.eval o).run P w=.ok (.value<|.pointer<|ah ⟨w.heap.size,0,aj⟩) (w.alloc<|.cells (a.eval x).cells t):=by
    simp [execOp,ho,Instr.box,newVar,newRow]
   exact aNh
  ·cases h
 ·rename_i t x ho
  obtain ⟨h1,h2⟩:=same h;obtain ⟨z,e1,e2,e3⟩:=qh hW h1 (ev x).1 (ev x).2;exact zt
 ·rename_i t x y ho
  obtain ⟨H1,h1,h2⟩:=T.B7 h;simp only [T.all,Az] at h2;obtain ⟨h2,h3⟩:=h2;subst h3;obtain ⟨w',e1,e2,e3,e4,e6⟩:=adp hW h1 (ev x).1 (ev y).1 (ev y).2;exact aNj
 ·rename_i s x i ho
  obtain ⟨h1,h2⟩:=same h;obtain ⟨z,e1,e2,e3⟩:=adU (w:=w) h1 (ev x).1 (ev x).2;exact bS
 ·rename_i t x i ho
  obtain ⟨h1,h2⟩:=same h;obtain ⟨z,e1,e2,e3⟩:=aEq (w:=w) h1 (ev x).1 (ev i).1 (ev x).2;exact bS
 ·rename_i t parts ho
  obtain ⟨h1,h2⟩:=same h
  obtain ⟨z,e1,e2,e3⟩:=adV (β:=β) (Z:=Z) (w:=w) (n:=M H) (pv:=parts.map λq=>(q.1,a.eval q.2)) h1 Vb (by
   simp only [Oe,HM];refine RL.Cm AJ λi x hx=>?_
   rw [Dr] at hx|-;cases hq:parts.toList[i]? with
   |none=>simp [hq] at hx
   |some q=>simp [hq] at hx;subst hx;exact ⟨a.eval q.2,AJ,(gp<|ev q.2).1⟩) (by
   simp only [HM];refine AU.Cm λi x hx=>?_
   rw [Dr] at hx;cases hq:parts.toList[i]? with
   |none=>simp [hq] at hx
   |some q=>simp [hq] at hx;subst hx;exact (gp<|ev q.2).2)
  exact val h2 (v:=z) KN e2 e3
 ·rename_i t len parts ho
  split at h
  ·rename_i h0
   subst h0;split at h
   ·rename_i hpe
    have hpa:parts=#[]:=by
     have:=bK.1 hpe
     rw [<-yu (xs:=parts),this]
    obtain ⟨w',v,e1,e2,β',e3,e4,e5,e6,e7,e8⟩:=adz hW h
    have hrun:(execOp a.eval o).run P w=.ok (.value v) w':=by simp [execOp,ho,hpa,e1]
    exact aOF
   ·cases h
  split at h
  rotate_left
  ·obtain ⟨w',v,e1,e2,β',e3,e4,e5,e6,e7,e8⟩:=aeh (pv:=parts.map λq=>(q.1,a.eval q.2)) hW h Vb (by
    simp only [Oe,HM];refine RL.Cm AJ λi x hx=>?_
    rw [Dr] at hx|-;cases hq:parts.toList[i]? with
    |none=>simp [hq] at hx
    |some q=>simp [hq] at hx;subst hx;exact ⟨a.eval q.2,AJ,(ev q.2).1⟩) (by
    simp only [HM];refine AU.Cm λi x hx=>?_
    rw [Dr] at hx;cases hq:parts.toList[i]? with
    |none=>simp [hq] at hx
    |some q=>simp [hq] at hx;subst hx;exact (ev q.2).2)
   have hrun:(execOp a.eval o).run P w=.ok (.value v) w':=KN
   rw [hrun];refine ⟨Z,β',e4,hF.mono A0 e3 (λ_ h=>h) λb hz=>EJ e2<|hW.Bc b hz,e5,e6,A0,e3,λk k1 k2=>?_,NM e2⟩
   have:k=M H:=A0
   rw [this,e8];exact .inl<|Au _
  split at h
  ·obtain ⟨w',v,Z',β',e1,e2,ez,e3,e4,e5,e6,e7,e8⟩:=aef (pv:=parts.map λq=>(q.1,a.eval q.2)) hW h Vb (by
    simp only [Oe,HM];refine RL.Cm AJ λi x hx=>?_
    rw [Dr] at hx|-;cases hq:parts.toList[i]? with
    |none=>simp [hq] at hx
    |some q=>simp [hq] at hx;subst hx;exact ⟨a.eval q.2,AJ,(ev q.2).1⟩) (by
    simp only [HM];refine AU.Cm λi x hx=>?_
    rw [Dr] at hx;cases hq:parts.toList[i]? with
    |none=>simp [hq] at hx
    |some q=>simp [hq] at hx;subst hx;exact (ev q.2).2)
   have hrun:(execOp a.eval o).run P w=.ok (.value v) w':=KN
   rw [hrun];refine ⟨Z',β',e4,hF.mono A0 e3 ez λb hz=>EJ e2<|hW.Bc b hz,e5,e6,A0,e3,λk k1 k2=>?_,NM e2⟩
   have:k=M H:=A0
   rw [this,e8];exact .inl<|Au _
  split at h
  rotate_left
  ·unfold pW at h
   split at h
   ·rename_i hcl
    have hargs:RL β Z w ((parts.toList.map λq=>(q.1,AM G F q.2)).map (·.2)) ((parts.map λq=>(q.1,a.eval q.2)).toList.map (·.2)):=by
     simp only [Oe,HM];refine RL.Cm AJ λi x hx=>?_
     rw [Dr] at hx|-;cases hq:parts.toList[i]? with
     |none=>simp [hq] at hx
     |some q=>simp [hq] at hx;subst hx;exact ⟨a.eval q.2,AJ,(ev q.2).1⟩
    have hoka:AU (M H) ((parts.toList.map λq=>(q.1,AM G F q.2)).map (·.2)):=by
     simp only [HM];refine AU.Cm λi x hx=>?_
     rw [Dr] at hx;cases hq:parts.toList[i]? with
     |none=>simp [hq] at hx
     |some q=>simp [hq] at hx;subst hx;exact (ev q.2).2
    generalize hvs:(parts.toList.map λq=>(q.1,AM G F q.2))=vs at h hcl hargs hoka
    obtain ⟨y,h1,h2⟩:=T.B7 h;simp only [T.all,Az] at h2;obtain ⟨rfl,rfl⟩:=h2;obtain ⟨_,hg,h1⟩:=T.B7 h1
    have hG:=T.BQ (K':=λ_=>True) (λ_ _=>trivial) hg
    obtain ⟨c1,c2⟩:=T9 hcl
    have hP:=hW.pub<|reach H 64 (ownsL<|vs.map (·.2)) []
    have hH:=λk b hb=>(hW.blk k b hb).2
    have hr0:RL β (ZP Z β H λk=>k∈reach H 64 (ownsL<|vs.map (·.2)) []) w ((vs.map (·.2)).map<|C8 H 6) ((parts.map λq=>(q.1,a.eval q.2)).toList.map (·.2)):=
     TR (S:=λk=>k∈reach H 64 (ownsL<|vs.map (·.2)) []) hargs hoka c1 (λx y hm hs hx hr=>Mf hW c2 6 x y (Ox hG x hm) hs hx hr)
    have hok0:AU 0 ((vs.map (·.2)).map<|C8 H 6):=by
     exact aOL
    have emap:(vs.map λq=>(q.1,C8 H 6 q.2)).map (·.2)=(vs.map (·.2)).map (C8 H 6):=Vb
    obtain ⟨elem,cells,e1,e2,e3⟩:=aFz (β:=β) (Z:=ZP Z β H λk=>k∈reach H 64 (ownsL<|vs.map (·.2)) []) (w:=w) (n:=0) (pv:=parts.map λq=>(q.1,a.eval q.2)) h1 (by rw [<-hvs];simp [Zp]) (by rw [emap];exact hr0) (by rw [emap];exact hok0)
    have hrun:(execOp a.eval o).run P w=.ok (.value<|.slice (ah ⟨w.heap.size,0,aj⟩) len len) (w.alloc<|.cells cells elem):=by
     simp [execOp,ho,e1]
    have hbw:Below w.heap.size w (w.alloc<|.cells cells elem):=(Below.refl _ _).alloc (Au _) _
    rw [hrun];refine ⟨_,β,hP.call hbw,?_,?_,okV.mono (N9 _) _ e3,by rw [KP];exact Au _,λ_ _=>rfl,λk h1 h2=>by rw [KP] at h2;omega,NM hbw⟩
    ·exact aP2
    ·exact e2 β _ _ w.heap.size (λ_ h=> .inl h) (λb hz=>EJ hbw<|hP.Bc b hz) (λj v hv=>by
      show World.cell? _ _=_
      unfold World.cell?
      have:(w.alloc<|.cells cells elem).heap[w.heap.size]? =ah (.cells cells elem (0,0)):=by
       exact cC
      simp only [this]
      simpa using hv)<|.inr ⟨Au _,AJ⟩
   ·cases h
  ·obtain ⟨h1,h2⟩:=same h
   subst h2
   have hp:=aFz (β:=β) (Z:=Z) (w:=w) (n:=M H') (pv:=parts.map λq=>(q.1,a.eval q.2)) h1 Vb (by
    simp only [Oe,HM];refine RL.Cm AJ λi x hx=>?_
    rw [Dr] at hx|-;cases hq:parts.toList[i]? with
    |none=>simp [hq] at hx
    |some q=>simp [hq] at hx;subst hx;exact ⟨a.eval q.2,AJ,(ev q.2).1⟩) (by
    simp only [HM];refine AU.Cm λi x hx=>?_
    rw [Dr] at hx;cases hq:parts.toList[i]? with
    |none=>simp [hq] at hx
    |some q=>simp [hq] at hx;subst hx;exact (ev q.2).2)
   obtain ⟨elem,cells,e1,e2,e3⟩:=hp
   have hrun:(execOp a.eval o).run P w=.ok (.value<|.slice (ah ⟨w.heap.size,0,aj⟩) len len) (w.alloc<|.cells cells elem):=by
    simp [execOp,ho,e1]
   have hbw:Below w.heap.size w (w.alloc<|.cells cells elem):=(Below.refl _ _).alloc (Au _) _
   rw [hrun];refine ⟨_,β,hW.call hbw,hF.mono (Au _) (λ_ _=>rfl) (λ_ h=> .inl h) λb hz=>EJ hbw<|hW.Bc b hz,?_,e3,Au _,λ_ _=>rfl,λk h1 h2=>A0,NM hbw⟩
   exact e2 β _ _ w.heap.size (λ_ h=> .inl h) (λb hz=>EJ hbw<|hW.Bc b hz) (λj v hv=>by
    show World.cell? _ _=_
    unfold World.cell?
    have:(w.alloc<|.cells cells elem).heap[w.heap.size]? =ah (.cells cells elem (0,0)):=by
     exact cC
    simp only [this]
    simpa using hv)<|.inr ⟨Au _,AJ⟩
 ·rename_i t n c ho
  obtain ⟨w',v,e1,e2,β',e3,e4,e5,e6,e7,e8⟩:=aeG hW h (ev n).1 (ev c).1
  have hrun:(execOp a.eval o).run P w=.ok (.value v) w':=KN
  exact aOF
 ·rename_i t x lo hi ho
  split at h
  ·exact NF
  ·obtain ⟨h1,h2⟩:=same h
   have ro:∀q:Option Operand,RO β Z w (q.map<|AM G F) (q.map a.eval):=λq=>by
    cases q with
    |none=>trivial
    |some q=>exact (ev q).1
   obtain ⟨z,e1,e2,e3⟩:=adI (w:=w) h1 (ev x).1 (ro lo) (ro hi) (ev x).2;exact bS
 ·rename_i t x lo hi mx ho
  split at h
  ·exact NF
  ·obtain ⟨h1,h2⟩:=same h
   have ro:RO β Z w (lo.map<|AM G F) (lo.map a.eval):=by
    cases lo with
    |none=>trivial
    |some q=>exact (ev q).1
   obtain ⟨z,e1,e2,e3⟩:=adC (w:=w) (N:=M H) h1 (ev x).1 ro (ev hi).1 (ev mx).1;exact bS
 ·rename_i t ho
  split at h
  ·rename_i e he
   simp only [T.all,Az] at h;obtain ⟨h1,h2⟩:=h;obtain ⟨β',b1,b2,b3,b4⟩:=hW.ahm (e:=e) (t:=t);exact aNb
  split at h
  ·rename_i kd hkd
   simp only [T.all,Az] at h;obtain ⟨h1,h2⟩:=h;obtain ⟨β',b1,b2,b3,b4⟩:=hW.ahn (kd:=kd) (t:=t);exact aNb
  ·cases h
 ·exact aOE
 ·exact aOE
 ·rename_i t x i ho
  obtain ⟨h1,h2⟩:=same h;obtain ⟨z,e1,e2,e3⟩:=aFa hW h1 (ev x).1 (ev i).1 (ev x).2;exact zt
 ·rename_i t x i ho
  split at h
  ·exact NF
  ·obtain ⟨h1,h2⟩:=same h
   obtain ⟨z,e1,e2,e3⟩:=adH hW h1 (ev x).1 (ev i).1 (ev x).2;exact zt
 ·rename_i x i ho
  split at h
  ·rename_i l hl
   split at h
   ·rename_i y hy
    simp only [T.all,Az] at h;obtain ⟨h1,h2⟩:=h
    have hx:=ev x
    rw [hl] at hx;simp only [R,okV] at hx;obtain ⟨⟨ys,e1,e2⟩,e3⟩:=hx;obtain ⟨z,e4,e5⟩:=RL.get _ _ e2 hy
    have e6:ys[i]? =ah z:=by simpa using e4
    refine val h2.symm (v:=z) aQ8 ?_ ?_<;>rw [<-h1]
    ·exact e5
    ·exact AU.get _ _ e3 hy
   ·cases h
  ·exact NF
 ·rename_i t x i ho
  split at h
  ·rename_i l hl
   obtain ⟨h1,h2⟩:=same h
   have hx:=ev x
   rw [hl] at hx;simp only [R,okV] at hx;obtain ⟨⟨ys,e1,e2⟩,e3⟩:=hx;obtain ⟨z,f1,f2,f3⟩:=aFw h1 e2 e3;exact aPZ
  ·exact NF
 ·rename_i f first cap ho
  split at h
  ·rename_i he
   simp only [T.all,Az] at h;obtain ⟨h1,h2⟩:=h
   have hfirst:first=#[]:=by
    have:first.toList=[]:=cb
    exact QW
   refine val h2.symm (v:=.func (.func f) #[]<|cap.map a.eval) aQ4 ?_ ?_<;>rw [<-h1]
   ·exact aO8
   ·exact aNu
  ·split at h
   ·rename_i he
    simp only [T.all,Az] at h;obtain ⟨h1,h2⟩:=h
    have hcap:cap=#[]:=by
     have:cap.toList=[]:=cb
     exact QW
    refine val h2.symm (v:=.func (.func f) (first.map a.eval) #[]) aQ9 ?_ ?_<;>rw [<-h1]
    ·exact aO6
    ·exact aNs
   ·cases h
 ·rename_i x ho
  have hx:=ev x
  split at h
  ·rename_i k off hl
   exact aOH
  ·rename_i k es i j hl
   exact aOH
  ·rename_i n f hl
   simp only [T.all,Az] at h;rw [hl] at hx
   have hx1:=hx.1
   simp only [R] at hx1;obtain ⟨b,off,e1,_⟩:=hx1;refine val h.2.symm (v:=a.eval x) KN ?_ ?_<;>rw [<-h.1]
   ·exact hx.1
   ·exact hx.2
  ·exact aOB
  ·exact aOB
  ·exact NF
 ·rename_i t x y t' ho
  split at h
  ·rename_i k n k' m hx hy
   split at h
   ·rename_i hk
    subst hk;simp only [T.all,Az] at h;obtain ⟨h0,h1,h2⟩:=h
    have e1:=Cs hx (ev x).1
    have e2:=Cs hy (ev y).1
    refine val h2.symm (v:=ag k<|k.wrap<|n.tdiv m) oK ?_ ?_<;>rw [<-h1]
    ·exact E4
    ·trivial
   ·cases h
  ·cases h
 ·rename_i t x y t' ho
  split at h
  ·rename_i k n k' m hx hy
   split at h
   ·rename_i hk
    subst hk;simp only [T.all,Az] at h;obtain ⟨h0,h1,h2⟩:=h
    have e1:=Cs hx (ev x).1
    have e2:=Cs hy (ev y).1
    refine val h2.symm (v:=ag k<|n.tmod m) oK ?_ ?_<;>rw [<-h1]
    ·exact E4
    ·trivial
   ·cases h
  ·cases h
 ·rename_i t x y t' ho
  split at h
  ·exact NF
  ·split at h
   ·rename_i k n k' m hx hy
    simp only [T.all,Az] at h;obtain ⟨h0,h1,h2⟩:=h
    have e1:=Cs hx (ev x).1
    have e2:=Cs hy (ev y).1
    refine val h2.symm (v:=ag k<|k.wrap<|n*2^(min m.toNat k.bits)) oH ?_ ?_<;>rw [<-h1]
    ·exact E4
    ·trivial
   ·cases h
 ·rename_i t x y t' ho
  split at h
  ·exact NF
  ·split at h
   ·rename_i k n k' m hx hy
    simp only [T.all,Az] at h;obtain ⟨h0,h1,h2⟩:=h
    have e1:=Cs hx (ev x).1
    have e2:=Cs hy (ev y).1
    refine val h2.symm (v:=ag k<|n.fdiv<|2^(min m.toNat k.bits)) oH ?_ ?_<;>rw [<-h1]
    ·exact E4
    ·trivial
   ·cases h
 ·rename_i t x i ho
  split at h
  ·rename_i l hl
   obtain ⟨h1,h2⟩:=same h;obtain ⟨ys,e1,e2,e3⟩:=aGE hl (ev x).1 (ev x).2;obtain ⟨z,f1,f2,f3⟩:=aG3 h1 e2 e3 (ev i).1;exact aPZ
  ·split at h
   ·rename_i s kd n hu hx hi
    simp only [T.all,Az] at h;obtain ⟨⟨h0,hlt⟩,h1,h2⟩:=h
    have e1:=Cs hx (ev x).1
    have e2:=Cs hi (ev i).1
    have hb:n.toNat<s.size:=A0
    have hg:s[n.toNat]? =ah s[n.toNat]:=by simp [hb]
    refine val h2.symm (v:=ag aw<|Ja s n) aPm ?_ ?_<;>rw [<-h1]
    ·exact E4
    ·trivial
   ·cases h
 ·rename_i f args ty ho
  split at h
  ·rename_i g cap hf
   exact aGC ho hΓ hW hF (.inl ⟨cap,hf,rfl⟩) h
  ·rename_i g fs hf
   exact aGC ho hΓ hW hF (.inr<|.inl ⟨fs,hf,rfl⟩) h
  ·cases h
 ·cases h
 ·rename_i args ty ho
  split at h
  ·rename_i x y t tx hl ht
   cases hargs:args.toList with
   |nil=>simp [hargs] at hl
   | cons u us=>
    cases us with
    |nil=>simp [hargs] at hl
    | cons u' us=>
     cases us with
     |cons _ _=>simp [hargs] at hl
     | nil=>
      simp only [hargs,ES,LO,Hv,Oi] at hl;obtain ⟨rfl,rfl⟩:=hl
      have ha:args=#[u,u']:=QY
      have hty:ty=#[t,tx]:=aQz
      obtain ⟨w',v,e1,e2,e3,β',e4,e5,e6,e7,e8,e9⟩:=adk (ty':=o.type) hW h (ev u).1 (ev u').1
      have hrun:(execOp a.eval o).run P w=.ok (.value v) w':=by
       simp [execOp,ho,resolve,invoke,builtin,ha,hty,e1]
      rw [hrun]
      have htb:P5 G F β H o=Dg β H (owns<|AM G F u):=by simp [P5,Ed,ho,ha]
      refine ⟨Z,β',e5,hF.mono A0 e4 (λ_ h=>h) e3,e6,e7,A0,e4,λk k1 k2=>?_,by rw [htb];exact e2⟩
      have:k=M H:=A0
      rw [this,htb];exact e9
  ·cases h
 ·rename_i args ty ho
  split at h
  ·rename_i x y t tx hl ht
   cases hargs:args.toList with
   |nil=>simp [hargs] at hl
   | cons u us=>
    cases us with
    |nil=>simp [hargs] at hl
    | cons u' us=>
     cases us with
     |cons _ _=>simp [hargs] at hl
     | nil=>
      simp only [hargs,ES,LO,Hv,Oi] at hl;obtain ⟨rfl,rfl⟩:=hl
      have ha:args=#[u,u']:=QY
      have hty:ty=#[t,tx]:=aQz
      obtain ⟨w',v,e1,e2,e3,e4,e5,e6,e7⟩:=aeC (ty':=o.type) hW h (ev u).1 (ev u').1
      have hrun:(execOp a.eval o).run P w=.ok (.value v) w':=by
       simp [execOp,ho,resolve,invoke,builtin,ha,hty,e1]
      rw [hrun]
      have htb:P5 G F β H o=Dg β H (owns<|AM G F u):=by simp [P5,Ed,ho,ha]
      refine ⟨Z,β,e2,hF.mono A0 (λ_ _=>rfl) (λ_ h=>h) e6,e3,e4,A0,λ_ _=>rfl,λk k1 k2=>?_,by rw [htb];exact e7⟩
      omega
  ·cases h
 ·rename_i args ty ho
  split at h
  ·rename_i k es off n e hl hu
   simp only [T.all,Az] at h;obtain ⟨h1,h2⟩:=h;cases hargs:args.toList with
   |nil=>simp [hargs] at hl
   | cons x xs=>
    cases xs with
    |cons _ _=>simp [hargs] at hl
    | nil=>
     simp only [hargs,ES,LO,Hv,Oi] at hl
     have hx:=(ev x).1
     rw [hl] at hx;simp only [R] at hx
     have e1:∃ad cap,a.eval x=.slice ad n cap:=by
      exact aOs
     obtain ⟨ad,cap,e1⟩:=e1
     have ha:args=#[x]:=QY
     cases ht:ty[0]? with
     |none=>simp [ht] at hu
     |some t=>
      simp only [ht,Oh] at hu;refine val h2.symm (v:=ag J n) VO ?_ ?_<;>rw [<-h1]
      ·exact E4
      ·trivial
  ·rename_i e' l e hl hu
   simp only [T.all,Az] at h;obtain ⟨h1,h2⟩:=h;cases hargs:args.toList with
   |nil=>simp [hargs] at hl
   | cons x xs=>
    cases xs with
    |cons _ _=>simp [hargs] at hl
    | nil=>
     simp only [hargs,ES,LO,Hv,Oi] at hl
     have hx:=(ev x).1
     rw [hl] at hx;simp only [R] at hx;obtain ⟨ad,cap,e1,_⟩:=hx
     have ha:args=#[x]:=QY
     cases ht:ty[0]? with
     |none=>simp [ht] at hu
     |some t=>
      simp only [ht,Oh] at hu;refine val h2.symm (v:=ag J (M l:Y)) VO ?_ ?_<;>rw [<-h1]
      ·exact E4
      ·trivial
  ·rename_i k' es' off' n' c' e hl hu
   simp only [T.all,Az] at h;obtain ⟨h1,h2⟩:=h;cases hargs:args.toList with
   |nil=>simp [hargs] at hl
   | cons x xs=>
    cases xs with
    |cons _ _=>simp [hargs] at hl
    | nil=>
     simp only [hargs,ES,LO,Hv,Oi] at hl
     have hx:=(ev x).1
     rw [hl] at hx;simp only [R] at hx;obtain ⟨_,ad,e1,_⟩:=hx
     have ha:args=#[x]:=QY
     cases ht:ty[0]? with
     |none=>simp [ht] at hu
     |some t=>
      simp only [ht,Oh] at hu;refine val h2.symm (v:=ag J n') VO ?_ ?_<;>rw [<-h1]
      ·exact E4
      ·trivial
  ·exact NF
 ·exact NF
structure Ev (b b':AB):Prop where
 cl:b.E5=U->b'.E5=U/\b'.t=b.t/\M b'.c=M b.c
 live:∀(β:aC->aXS) (k:aC),live β k b'->live β k b
 p:b'.p=X->b.p=X
def Ev.refl (b:AB):Ev b b:=⟨λh=>⟨h,rfl,rfl⟩,λ_ _ h=>h,λh=>h⟩
def Ev.trans {a b c:AB}(h:Ev a b) (g:Ev b c):Ev a c:=⟨λhc=>by
 obtain ⟨h1,h2,h3⟩:=h.cl hc;obtain ⟨g1,g2,g3⟩:=g.cl h1;exact ⟨g1,g2.trans h2,g3.trans h3⟩,λβ k hl=>h.live β k<|g.live β k hl,λhp=>h.p<|g.p hp⟩
def EvL (H H':aG):Prop:=∀(k:aC) (b:AB),H[k]? =ah b->∃b':AB,H'[k]? =ah b'/\Ev b b'
def EvL.refl (H:aG):EvL H H:=λ_ b hb=>⟨b,hb,Ev.refl b⟩
def EvL.app (H E:aG):EvL H (H++E):=λk b hb=>⟨b,A8,Ev.refl b⟩
def EvL.trans {A B C:aG}(h:EvL A B) (g:EvL B C):EvL A C:=λk b hb=>by
 obtain ⟨b1,h1,h2⟩:=h k b hb;obtain ⟨b2,g1,g2⟩:=g k b1 h1;exact ⟨b2,g1,h2.trans g2⟩
def EvL.set {k0:aC}{b0 nb:AB}(hb0:H[k0]? =ah b0) (he:Ev b0 nb):EvL H (H.set k0 nb):=λk b hb=>by
 rw [IY]
 by_cases hkk:k0=k
 ·subst hkk
  grind
 ·rw [AE hkk];exact ⟨b,hb,Ev.refl b⟩
def EvL.pub (ks:aH):EvL H (Fw ks 0 H):=λk b hb=>by
 rw [eX,hb];split
 ·exact ⟨_,rfl,λh=>⟨h,rfl,rfl⟩,λ_ _ h=>h,λh=>As⟩
 ·exact ⟨_,rfl,Ev.refl b⟩
def aqF {t:aS}{x y:LV}{H':aG}(h:(Th P H t x y).all λq=>q=H'):EvL H H':=by
 unfold Th at h;split at h
 ·split at h
  ·split at h
   ·rename_i hb
    split at h
    ·rename_i hle
     subst h;refine EvL.set hb ⟨λhc=>⟨hc,rfl,?_⟩,λ_ _ h=>h,λh=>h⟩
     simp only [setAt,BG,MG,FQ];omega
    ·cases h
   ·cases h
  ·split at h
   ·rename_i hb
    split at h
    ·simp only [T.all] at h
     obtain ⟨_,h⟩:=h;split at h
     ·simp only [T.all] at h
      subst h;exact aOl
     ·cases h
    ·cases h
   ·cases h
  ·cases h
 ·cases h
def aJy {t:aS}{x i y:LV}{H':aG}(h:(Vm P H t x i y).all λq=>q=H'):EvL H H':=by
 unfold Vm at h;split at h
 ·split at h
  ·split at h
   ·rename_i hb
    split at h
    ·simp only [T.all] at h
     exact aOb
    ·cases h
   ·cases h
  ·cases h
 ·cases h
def af7 {t:aS}{x i y:LV}{H':aG}(h:(insL P H t x i y).all λq=>q=H'):EvL H H':=by
 unfold insL at h;split at h
 ·split at h
  ·rename_i hb
   split at h
   ·split at h
    ·simp only [T.all] at h
     obtain ⟨_,h⟩:=h;exact aOb
    ·cases h
   ·cases h
  ·exact aJy h
 ·exact aJy h
def aqy {t:aS}{n c lv:LV}{H':aG}(h:(UA P H t n c).all λq=>q=(lv,H')):EvL H H':=by
 unfold UA at h;split at h
 ·split at h
  ·split at h
   ·split at h
    ·exact aPR
    ·cases h
   ·cases h
  ·cases h
 ·cases h
def arU {t tx:aS}{x y lv:LV}{H':aG}(h:(Xy P H t tx x y).all λq=>q=(lv,H')):EvL H H':=by
 unfold Xy at h;split at h
 ·split at h
  ·split at h
   ·rename_i hb
    split at h
    ·split at h
     ·obtain ⟨q,_,h⟩:=T.B7 h
      simp only [T.all,Az] at h;rw [<-h.2.2];exact aOl
     ·cases h
    ·cases h
   ·cases h
  ·cases h
 ·cases h
def af4 {t tx:aS} {x y lv:LV} {H':aG} (h:(Lm P H t tx x y).all λq=>q=(lv,H')):EvL H H':=by
 unfold Lm at h;split at h
 ·split at h
  ·split at h
   ·obtain ⟨q,_,h⟩:=T.B7 h
    ·split at h
     ·exact aPR
     ·split at h
      ·rename_i hb
       split at h
       ·split at h
        ·simp only [T.all,Az] at h
         rw [<-h.2.2];refine (EvL.set hb ?_).trans<|EvL.app _ _;exact ⟨λhc=>aAb,λ_ _ h=>by simp [live] at h,λ_=>rfl⟩
        ·cases h
       ·cases h
      ·cases h
     ·cases h
   ·cases h
  ·cases h
 ·cases h
end Go.Sx
namespace Go.Sx
open Go Go.RowKit Go.Proofs.YtpdndmobphnjcaaGreatDoor
variable {P : Program} {G : BA} {Γ : Specs} {K : Hand} {β : Nat -> Loc} {Z : Nat -> Prop} {Z0 : Gz} {w w0 : World} {F : List LV} {H : List AB} {a : Act} {ds : List Deferred} {n : Nat}
def RF.put (hF:RF ds β Z w n F a) {lv:LV}{v:aV}(hr:R β Z w lv v) (hk:okV n lv) (d:bA):RF ds β Z w n (Av F d lv) (a.put d v):=by
 cases d with
 |none=>exact hF
 | some d=>
  refine ⟨by simp [Av,Act.put,hF.size],λt x hx=>?_,hF.defers⟩
  simp only [Av] at hx;rw [IY] at hx;simp only [Act.put]
  have hlt:t<M F:=by
   by_cases ht:t<M F
   ·exact ht
   ·exfalso
    split at hx
    ·split at hx
     ·omega
     ·cases hx
    ·grind
  have hta:t<a.tmps.size:=by rw [hF.size];exact hlt
  by_cases hdt:d=t
  ·subst hdt
   have:(a.tmps.setIfInBounds d v).getD d undef=v:=GN
   grind
  ·rw [AE hdt] at hx
   have:(a.tmps.setIfInBounds d v).getD t undef=a.tmps.getD t undef:=GN
   rw [this];exact hF.get t x hx
def RF.know (hF:RF ds β Z w n F a) {d:aC}{lv:LV}(hr:R β Z w lv<|a.tmps.getD d undef) (hk:okV n lv):RF ds β Z w n (F.set d lv) a:=by
 refine ⟨by simp [hF.size],λt x hx=>?_,hF.defers⟩
 rw [IY] at hx
 by_cases hdt:d=t
 ·subst hdt
  simp only [Bu] at hx;split at hx
  ·grind
  ·cases hx
 ·rw [AE hdt] at hx;exact hF.get t x hx
def RF.pass (hF:RF ds β Z w n F a) (d:bA):RF ds β Z w n (Av F d<|.v undef) (a.put d undef):=hF.put (lv:=.v undef) KM trivial d
def eI {o:aU}{K:bg->aO->Prop}{Q:aYb->bg->aO->Prop}(h:Dt P (λv w'=>K (a.put o.dst v) w')<|(execOp a.eval o).run P w) (r:bp) (m:aC):o.wpIn (Dy r) m P a w K Q:=by
 have hnd:∀c,o.op≠ .defer c:=λc hc=>by
  rcases aFB (P:=P) (ρ:=a.eval) (w:=w) hc with ⟨d,w',e⟩ |⟨d,w',e⟩<;>rw [e] at h<;>simp only [Dt] at h
 refine ⟨λ_ _=>trivial,?_⟩
 rw [semAt_eq hnd];generalize (execOp a.eval o).run P w=res at*;cases res with
 |ok m w'=>
  cases m<;>simp only [Dt] at h<;>simp only [Oper.uponIn]
  case value u=>exact h
  case skip=>exact h
  case enter f args=>exact ⟨λh=>As,VD.2<|h.mono λe w'' ⟨v,he,hk⟩=>A8⟩
  case round l f tmps assign body=>exact ⟨λh=>As,aFs<|h.mono λe w'' ⟨v,he,hk⟩=>A8⟩
 |halt x w'=>simp only [Dt] at h
def WK {ops:aK}{o:aU}{j d:aC}{want b:aM}(hg:o.guard=ah (j,want)) (hd:(ops[j]?).bind (·.dst)=ah d) (hv:a.tmps[d]? =ah (.bool b)):az o (yielded ops a.tmps)=(b==want):=by
 exact aPV
def ad3 {ops:aK}{o:aU}{j d:aC}{want:aM}{vs:aX}(hg:o.guard=ah (j,want)) (hd:(ops[j]?).bind (·.dst)=ah d) (hv:a.tmps[d]? =ah (.tuple vs)):az o (yielded ops a.tmps)=false:=by
 exact aPV
def RF.slot (hF:RF ds β Z w n F a) {d:aC}{x:LV}(hx:F.getD d .junk=x) (hj:x≠ .junk):F[d]? =ah x/\a.tmps[d]? =ah (a.tmps.getD d undef):=by
 cases h:F[d]? with
 |none=>simp [List.getD,h] at hx;exact absurd hx.symm hj
 |some y=>
  simp [List.getD,h] at hx
  subst hx;refine ⟨rfl,?_⟩
  have:d<a.tmps.size:=by rw [hF.size];exact (EI.1 h).1
  simp_all
def RW.less {gh:List<|LV×Value}{mk:aH}(hW:RW G w0 ⟨Z0.z,gh++Z0.gh,mk++Z0.Cv⟩ Z β H w):RW G w0 Z0 Z β H w:=⟨hW.below,hW.Bc,hW.Et,hW.Cr,hW.GV,hW.low,hW.inj,hW.blk,hW.Cy,λp hp=>hW.gh p<|Bf.2<|.inr hp,λD hD=>hW.Cv D<|Bf.2<|.inr hD⟩
def dsB:aXR->List Nat
 | []=>[]
 |⟨.collected D,_⟩::ds=>D::dsB ds
 |_::ds=>dsB ds
def uA:∀ {ds:aXR}{D:aC},H0 D∈ds->D∈dsB ds
 | d::ds,D,h=>by
  rcases B6.1 h with h|h
  ·rw [<-h];simp [dsB,H0]
  ·unfold dsB
   split
   ·grind
   ·rename_i e;simp only [Hv] at e;rw [<-e.2];exact NB _<|uA h
   ·rename_i e;simp only [Hv] at e;rw [<-e.2];exact uA h
def aUB:∀ {ds:aXR}{D:aC},D∈dsB ds->(∀d,d∈ds->∃D,d=H0 D)->H0 D∈ds
 | [],D,h,_=>As
 |d::ds,D,h,hm=>by
  obtain ⟨D0,rfl⟩:=hm d AJ;rcases B6.1 h with h|h
  ·grind
  ·exact NB _<|aUB h λd hd=>hm d<|NB _ hd
def RW.hold (hW:RW G w0 Z0 Z β H w) (hF:RF ds β Z w (M H) F a):RW G w0 ⟨Z0.z,F.zip a.tmps.toList++Z0.gh,dsB ds++Z0.Cv⟩ Z β H w:=⟨hW.below,hW.Bc,hW.Et,hW.Cr,hW.GV,hW.low,hW.inj,hW.blk,hW.Cy,λp hp=>by
  rcases Bf.1 hp with hp|hp
  ·obtain ⟨i,hi,hpi⟩:=Hx.1 hp
   have hiF:i<M F:=A8
   have hia:i<a.tmps.size:=A8
   have h1:=hF.get i F[i]<|Di hiF
   have e2:a.tmps.getD i undef=a.tmps[i]:=GN
   grind
  ·exact hW.gh p hp,λD hD=>by
  rcases Bf.1 hD with hD|hD
  ·have:=aUB hD (λd hd=>by obtain ⟨D,h,_⟩:=hF.defers.2 d hd;exact ⟨D,h⟩)
   obtain ⟨D',h1,h2,h3⟩:=hF.defers.2 _ this
   grind
  ·exact hW.Cv D hD⟩
def RW.held {β':aC->aXS}{Z':aC->Prop}{w':aO}{H':aG}(hF:RF ds β Z w (M H) F a) (r1:RW G w0 ⟨Z0.z,F.zip a.tmps.toList++Z0.gh,dsB ds++Z0.Cv⟩ Z' β' H' w'):RF ds β' Z' w' (M H') F a:=by
 refine ⟨hF.size,λt x hx=>?_,hF.defers.1,λd hd=>?_⟩
 ·have htF:=(EI.1 hx).1
  have hta:t<a.tmps.size:=by have:=hF.size;omega
  have e2:a.tmps.getD t undef=a.tmps[t]:=GN
  rw [e2];refine r1.gh (x,a.tmps[t])<|Bf.2<|.inl<|Hx.2 ⟨t,A8,?_⟩
  have:F[t]=x:=A8
  simp [this]
 ·obtain ⟨D,h1,h2,h3⟩:=hF.defers.2 d hd
  have:=r1.Cv D<|Bf.2<|.inl<|uA<|h1▸hd
  grind
end Go.Sx
end
