/- Helpers for ParkRestart. Conditions: none. -/
import Derived.Test.YtoifmkifedcnnaaGreatDoorRows
import Derived.WalkKit
import Derived.WalkSpells
import Derived.WalkLawsBesides
import Derived.Deep.QuietTactic
import Derived.BigQuiet
import Derived.Deep.RegionHeld3
import Derived.Deep.DrawnRows
import Derived.Deep.DeepCutAuto
import Derived.RangeFuncLeaves
import Derived.RangeFuncRecord
import Derived.OrdersIn
import Derived.LoopNIn
import Derived.Deep.Upon
import Derived.Laws.MakeOwn
import Derived.LoopN
import Derived.Test.YtoifmkifedcnnaaGreatDoorProg
import Derived.Stop.Asserts
import Derived.Lib.IfaceEq
import Derived.RowKitTokens
import Derived.OpenShut
import Derived.ChangeShapes
import Derived.WideShapes
import Derived.Carry
import Derived.ChangeOld
import Derived.FnData
import Derived.Test.YtoifmkifedcnnaaGreatDoorCards
import Derived.Test.YtoifmkifedcnnaaGreatDoorTie
import Derived.ProofKit
import Derived.Deep.DeepHandedRow
import Derived.Lib.LaidTab
set_option linter.defProp false
set_option linter.unusedVariables false
set_option linter.unusedSimpArgs false
noncomputable section
open List renaming length→M,length→aa,replicate→aq,range→au
open Bool renaming true→U,true→ae,false→X,false→af
open Go.Value renaming int→ag
open Option renaming some→ah,none→aj
open Go.IntKind renaming i64→J,i64→ai,u8→aw,u32→ax
open True renaming intro→ak
open Decidable renaming decide→an
open ByteArray renaming mk→av
open Go.Region renaming ready→ay,wanted→az
open Go.Instr renaming findNow→aA
namespace Go
structure qT(α:Type)
instance{α:Type}:CoeSort (qT α) Type:=⟨λ_=>α⟩
def Y:qT Int:=⟨⟩
def aWd:qT (List Int):=⟨⟩
def aWe:qT (Nat):=⟨⟩
def aWg:qT (List ByteArray):=⟨⟩
def aWj:qT (List Nat):=⟨⟩
def aWk:qT (List (List Int)):=⟨⟩
def aWm:qT (Array Oper):=⟨⟩
def aWo:qT (Bool):=⟨⟩
def aWq:qT (World):=⟨⟩
def aWt:qT (Program):=⟨⟩
def aWu:qT (TypeId):=⟨⟩
def aWv:qT (List Value):=⟨⟩
def aWw:qT (Oper):=⟨⟩
def aWx:qT (Value):=⟨⟩
def aWy:qT (Array Bool):=⟨⟩
def aWz:qT (Array Value):=⟨⟩
def aWD:qT (Act):=⟨⟩
def aWF:qT (FuncId):=⟨⟩
def aWG:qT (Option Nat):=⟨⟩
def aWH:qT (List Bool):=⟨⟩
def aWK:qT (List TypeId):=⟨⟩
def aWL:qT (List Oper):=⟨⟩
def aWM:qT (ByteArray):=⟨⟩
def aWO:qT (Code):=⟨⟩
def aWQ:qT (Option Tmp):=⟨⟩
def aWS:qT (Operand):=⟨⟩
def aWT:qT (List Deferred):=⟨⟩
def aWV:qT (Array Operand):=⟨⟩
def aWW:qT (IntKind):=⟨⟩
def aWX:qT (Func):=⟨⟩
def aWZ:qT (Option Value):=⟨⟩
def aW1:qT (List MemPlace):=⟨⟩
def aW3:qT (Array TypeId):=⟨⟩
def aW4:qT (Exit):=⟨⟩
def aW7:qT (Array (Nat×Value)):=⟨⟩
def aW8:qT (Array Tmp):=⟨⟩
def aXa:qT (List MapEntry):=⟨⟩
def aXb:qT (Region.Mode):=⟨⟩
def aXc:qT (List (String×DataW Unit)):=⟨⟩
def aXd:qT (Option (Nat×Nat)):=⟨⟩
def aXf:qT (Result Next):=⟨⟩
def aXg:qT (List (Int×(List Int))):=⟨⟩
def aXh:qT (String):=⟨⟩
def aXi:qT (List ResultVar):=⟨⟩
def aXk:qT (List Field):=⟨⟩
abbrev Aa:=@decide_eq_true_eq
abbrev AY:=@Bool.and_eq_true
abbrev AD:=@if_pos
abbrev AE:=@if_neg
abbrev Ai:=@Option.some.injEq
abbrev Ci:=@List.length_replicate
abbrev BL:=@List.length_append
abbrev DC:=@decide_eq_false_iff_not
abbrev B0:=@Prod.mk.injEq
abbrev CQ:=@beq_eq_false_iff_ne
abbrev BO:=@List.all_eq_true
abbrev C3:=@List.length_set
abbrev At:=@Nat.le_refl
abbrev Bj:=@List.length_cons
abbrev BA:=@List.mem_cons
abbrev By:=@Int.toNat_natCast
abbrev Bt:=@List.length_nil
abbrev CP:=@Int.toNat_of_nonneg
abbrev DJ:=@List.getD_eq_getElem?_getD
abbrev BX:=@List.mem_append
abbrev Cj:=@Bool.or_eq_true
abbrev D5:=@of_decide_eq_true
abbrev Dg:=@List.getElem?_eq_getElem
abbrev Bu:=@List.not_mem_nil
abbrev Ga:=@Bool.or_eq_false_iff
abbrev CZ:=@Go.run_underlying
abbrev EE:=@List.getElem?_eq_some_iff
abbrev De:=@List.take_of_length_le
abbrev Ct:=@List.append_assoc
abbrev Df:=@List.getElem?_map
abbrev F6:=@List.drop_eq_nil_of_le
abbrev CS:=@List.mem_filter
abbrev D2:=@Bool.not_eq_true'
abbrev CT:=@List.drop_zero
abbrev B3:=@congrArg
abbrev GY:=@List.getElem?_append_right
abbrev Cg:=@decide_eq_true
abbrev D3:=@beq_iff_eq
abbrev Hj:=@List.getElem?_append_left
abbrev Hk:=@Array.getElem?_eq_some_iff
abbrev IL:=@Int.tdiv_eq_ediv_of_nonneg
abbrev FO:=@List.length_drop
abbrev D4:=@Bool.false_or
abbrev FP:=@List.getElem?_drop
abbrev EF:=@Option.some.inj
abbrev El:=@List.take_length
abbrev Co:=@Int.le_refl
abbrev EX:=@List.nil_append
abbrev HG:=@List.mem_iff_getElem
abbrev HI:=@List.mem_singleton
abbrev GZ:=@List.getElem_mem
abbrev M6:=@Int.mul_le_mul_of_nonneg_right
abbrev Bs:=@or_false
abbrev GB:=@List.length_map
abbrev IJ:=@Bool.false_eq_true
abbrev Dv:=@bne_iff_ne
abbrev ET:=@List.map_cons
abbrev EU:=@Bool.true_and
abbrev F5:=@List.mem_map
abbrev Ek:=@Nat.zero_add
abbrev IK:=@Bool.not_eq_false'
abbrev Bp:=@if_true
abbrev IM:=@Bool.eq_false_iff
abbrev Gb:=@List.append_nil
abbrev IN:=@List.getElem?_set
abbrev Jg:=@List.map_congr_left
abbrev M8:=@List.length_eq_zero_iff
abbrev M9:=@Go.World.putObj_heap_other
abbrev KF:=@of_decide_eq_false
abbrev Ho:=@List.cons.injEq
abbrev Ip:=@Bool.eq_iff_iff
abbrev IP:=@decide_eq_false
abbrev Q6:=@Int.mul_le_mul_of_nonneg_left
abbrev MA:=@List.length_take
abbrev HK:=@List.map_map
abbrev Hp:=@Nat.add_assoc
abbrev Jh:=@Option.map_some
abbrev LD:=@List.getElem?_take
abbrev OU:=@List.mem_or_eq_of_mem_set
abbrev x7:=@Array.toArray_toList
abbrev Zj:=@Function.comp_def
abbrev Q7:=@Int.fdiv_eq_ediv_of_nonneg
abbrev Q8:=@Array.getElem?_eq_getElem
abbrev Q9:=@Int.not_le
abbrev N9:=@Array.toList_map
abbrev KG:=@List.cons_append
abbrev MB:=@ge_iff_le
abbrev Iq:=@List.mem_range
abbrev HJ:=@Nat.le_trans
abbrev N6:=@Nat.mul_le_mul_right
abbrev GC:=@Nat.add_mul
abbrev N7:=@List.mem_cons_of_mem
abbrev Im:=@Int.mul_nonneg
abbrev Hl:=@Int.le_trans
abbrev KD:=@List.map_append
abbrev KE:=@List.foldl_cons
abbrev Q2:=@Int.eq_ofNat_of_zero_le
abbrev Io:=@List.all_cons
abbrev OP:=@List.mem_of_getElem?
abbrev F7:=@Go.mem_ready
abbrev SZ:=@List.drop_eq_getElem_cons
abbrev OQ:=@List.length_pos_iff
abbrev Q3:=@List.mem_of_mem_erase
abbrev Zi:=@List.take_succ_eq_append_getElem
abbrev FQ:=@if_false
abbrev FR:=@true_and
abbrev Q4:=@List.mem_of_mem_drop
abbrev M7:=@List.nodup_cons
abbrev OR:=@Option.bind_some
abbrev N8:=@List.filter_cons
abbrev Q5:=@Bool.not_eq_false
abbrev Sa:=@List.getElem?_eq_none
abbrev OS:=@beq_self_eq_true
abbrev OT:=@List.any_eq_true
abbrev V9:=@List.getElem?_replicate
abbrev LC:=@List.map_nil
abbrev SV:=@Bool.or_eq_true_iff
abbrev Ze:=@Option.isNone_iff_eq_none
abbrev Zf:=@Decidable.byContradiction
abbrev Zg:=@List.getElem?_toArray
abbrev SW:=@List.mem_filterMap
abbrev SX:=@List.mem_replicate
abbrev SY:=@Int.natCast_nonneg
abbrev Zh:=@Option.isSome_iff_exists
abbrev VD:=@List.erase_cons_tail
abbrev VE:=@List.mem_of_mem_take
abbrev Sd:=@List.length_range
abbrev lf:=@Array.getD_eq_getD_getElem?
abbrev VF:=@Int.ediv_le_self
abbrev QA:=@Bool.false_and
abbrev Zq:=@List.contains_iff_mem
abbrev xJ:=@Bool.and_eq_false_iff
abbrev lg:=@List.isEmpty_eq_false_iff
abbrev lh:=@List.pairwise_iff_getElem
abbrev ln:=@List.getLastD_eq_getLast?
abbrev Se:=@List.range_succ
abbrev Sf:=@Int.ediv_nonneg
abbrev NA:=@Nat.zero_le
abbrev lq:=@Go.Result.andThen_ok
abbrev Zr:=@List.getElem?_set_ne
abbrev QB:=@Int.sub_zero
abbrev xK:=@List.replicate_append_replicate
abbrev Zs:=@List.replicate_succ
abbrev xL:=@List.eq_nil_iff_forall_not_mem
abbrev lr:=@List.getElem?_cons_succ
abbrev Sg:=@Bool.and_false
abbrev xM:=@List.eq_nil_of_length_eq_zero
abbrev QC:=@Nat.lt_or_ge
abbrev Zt:=@Nat.lt_of_lt_of_le
abbrev Zu:=@List.filter_append
abbrev lR:=@Int.mul_ediv_add_emod
abbrev lS:=@List.set_append_right
abbrev Zl:=@Decidable.not_not
abbrev xD:=@Array.getElem?_append_left
abbrev VA:=@Bool.and_assoc
abbrev xE:=@Int.tmod_eq_emod_of_nonneg
abbrev lT:=@List.replicate_succ'
abbrev Zm:=@List.isEmpty_iff
abbrev aok:=@Array.mem_append
abbrev Zn:=@List.ext_getElem
abbrev Zo:=@Nat.lt_succ_self
abbrev Sb:=@Bool.or_true
abbrev xF:=@Array.mapM_eq_mapM_toList
abbrev lU:=@Array.getElem?_push
abbrev lV:=@Array.toList_append
abbrev aLz:=@List.getElem?_take_of_lt
abbrev Zp:=@Go.Oper.apart_spec
abbrev lX:=@List.pairwise_cons
abbrev lY:=@List.length_modify
abbrev lZ:=@List.getElem_range
abbrev xG:=@Classical.axiomOfChoice
abbrev Sc:=@Nat.one_mul
abbrev xH:=@Nat.add_sub_cancel_left
abbrev VB:=@Go.callsIn_wide
abbrev VC:=@Nat.ne_of_lt
abbrev xI:=@Array.getElem?_eq_none
abbrev lM:=@Go.Sem.run_bind
abbrev x8:=@List.Perm.append_right
abbrev lO:=@List.flatMap_cons
abbrev x9:=@List.singleton_append
abbrev xA:=@List.length_filter_le
abbrev xB:=@Go.run_typeAssert_lacksB
abbrev xC:=@Int.mul_tdiv_add_tmod
abbrev lP:=@Option.getD_some
abbrev lQ:=@List.nodup_range
abbrev Zk:=@List.any_cons
abbrev OW:=@and_true
abbrev VJ:=@List.map_id
abbrev aM6:=@List.drop_append_of_le_length
abbrev mC:=@List.foldr_cons
abbrev aM7:=@List.replicate_eq_append_iff
abbrev xV:=@Array.length_toList
abbrev xW:=@List.getElem?_range
abbrev xX:=@List.filter_sublist
abbrev xY:=@Nat.add_comm
abbrev Zz:=@Nat.add_zero
abbrev xZ:=@Go.Sem.run_pure
abbrev VL:=@Nat.not_lt
abbrev OX:=@Ne.symm
abbrev aB:=@Go.getD_set_ne
abbrev xa:=@Go.run_storeCells_at
abbrev xb:=@List.nodup_append
abbrev xc:=@List.filter_congr
abbrev xd:=@List.Pairwise.map
abbrev xe:=@List.reverse_perm
abbrev aC:=@Int.one_mul
abbrev mD:=@Bool.and_true
abbrev aol:=@List.mem_toArray
abbrev xf:=@List.getElem_map
abbrev xg:=@Int.ediv_le_ediv
abbrev mE:=@Nat.le_of_eq
abbrev mF:=@Nat.zero_mul
abbrev lz:=@Go.execOp_congr
abbrev aM2:=@Int.not_lt
abbrev m5:=@List.any_nil
abbrev m6:=@Nat.sub_self
abbrev xO:=@Array.size_push
abbrev m7:=@Int.add_mul
abbrev Sk:=@eq_comm
variable {p:Prop}
def Zx(h:p:=by
 have c1:s.i<s.n:=AX
 rw [AJ (x:=s.i+1)];exact ⟨⟨AZ,AZ,h2,h3,hg,(by first|exact l1|(simp only [C3];exact l1)),l2,(by first|exact l3|(simp only [C3];exact l3)),(by first|exact l4|(simp only [C3];exact l4)),(by first|exact l5|(simp only [C3];exact l5))⟩,by simp only [cS];omega⟩):=h
def Zy(h:p:=by
 intro s hI;refine ⟨λc1=>⟨?_,?_,?_,ak⟩,λc1=>⟨A9,ak⟩⟩
 all_goals ((obtain ⟨h0,h1,h2,h3,h4⟩:=hI;(try simp only [Aa] at c1);first|omega|(refine ⟨A0,?_,?_⟩<;>simp only [Bj,Bt]<;>omega) |(simp only [BL,Bj,Bt];omega) |exact ⟨rfl,AI⟩ |exact ⟨rfl,rfl⟩))):=h
def aM3(h:p:=by
 have c1:s.k<s.m:=AX
 have c2:=Qi hI c2
 have hp:s.levels.getD (gi s.l s.k).toNat 0=s.level-1/\s.level<=Ff s.B6 (gi s.l s.k) (gi s.most<|gi s.l s.k):=by
  refine ⟨c2,?_⟩
  have h6:=hI.2.2.1
  simp only [DC] at c3;rw [<-h6] at c3;unfold Ff;omega
 have hE:=WK hI c1 c2
 rcases cf _ hE with ⟨q1,q2⟩ |⟨q1,q2,q3⟩
 ·rw [q1] at c4
  cases c4
 ·rw [q2] at c5
  cases c5):=h
def LF(h:p:=by
 by_cases hji:(j:Y)<s.i
 ·exact h4 j hji
 ·have:(j:Y)=s.i:=A8
  rw [this];exact hg):=h
def KH(h:p:=by
 rintro s ⟨h0,h1,h2,h3⟩
 exact ⟨A0,A0,h2,h3,λj hj=>A0⟩):=h
def xP(h:p:=by
 refine ⟨rfl,?_⟩;refine acr (by rw [Iu];exact h4) λj j0 j1=>?_
 rw [Iu] at j1;rw [Of j0 j1,h5 j j0 A0,AD (show j<s.i by omega)]):=h
def xR(h:p:=by
 refine ⟨hW.mask d1 d2 d3,λb hb=>?_⟩
 rcases hb with hb|⟨k,bk,hk1,hk2,hk3,rfl⟩
 ·exact d1.block b (hW.Bc b hb)<|hW.ox hb
 ·have hkt:k∉tr:=by simpa using hk3
  rw [aD5] at hk1;cases hH:H2[k]? with
  |none=>simp [hH] at hk1
  |some b0=>
   simp only [hH,Jh,Ai,Ek] at hk1;rw [AE<|by simpa using hkt] at hk1
   subst hk1;exact d1.block _ (hW.lt hH hk2)<|hW.ad6 hH hk2 hkt):=h
def Sl(h:p:=by
 intro s hI;refine ⟨λc1=>⟨?_,λ_=>trivial,λ_=>trivial⟩,λ_=>trivial⟩
 ·(obtain ⟨h0,h1,h2,h3,h4⟩:=hI;simp at c1;omega)):=h
def m8(h:p:=by
 have hG':(GK (EZ H d) l).all (λ_=>True):=aOx
 clear hG
 simp only [C1,R,okV,owns] at*;obtain ⟨ys,h1,h2⟩:=h;exact ⟨ys,h1,TD h2 hk hS λx y hm hx hk' hr=>MV hW clo d x y (Og hG' _ hm) hx hk' hr⟩):=h
def QD(h:p:=by
 have c:=Dv.1 c
 show L9 _=_
 rw [(oK (by rw [s1];exact c)).1,(oK (by rw [s1];exact c)).2,s1]
 rfl):=h
def m9(h:p:=by
 simp only [D3,CQ,ne_eq,Cj,Ga,Aa,DC,MB,Q9] at*;refine fin _ _ ?_ ?_<;>(clear fin w0 w3a w3b w4a w4b;omega)):=h
def aM4(h:p:=by
 have hrun:(execOp a.eval o).run P w=.ok .skip w':=KI
 rw [hrun,<-h2];refine ⟨Z,β,e2,?_,?_,ak,A0,λ_ _=>rfl,λk k1 k2=>A0,by simp only [Oq,Eu,ho];exact e6⟩
 ·rw [e3];exact hF.mono (At _) (λ_ _=>rfl) (λ_ h=>h) e4
 ·simp only [R]):=h
def VH(h:p:=by exact .inl ⟨rfl,λj hj=>h4 j A0⟩):=h
def Sm(h:p:=by
 rintro s ⟨h0,h2,h3,h4,h5,h6⟩
 exact ⟨A0,h2,h3,h4,λj j0 j1=>A8,h6⟩):=h
def xS(h:p:=by
 intro s hI;refine ⟨λc1=>⟨?_,?_,?_,?_,ak⟩,λc1=>⟨A9,ak⟩⟩
 all_goals ((obtain ⟨⟨h0,h1⟩,h2,h3,h4,h5,h6⟩:=hI;(try simp only [Aa] at c1);first|omega|exact ⟨rfl,AI⟩ |(omega)))):=h
def mA(h:p:=by
 by_cases e:j=s.i
 ·subst e
  rw [AD rfl,AD (show s.i<s.i+1 by omega)]
  rfl
 ·rw [AE e,h5 j j0 j1]
  by_cases q:j<s.i
  ·omega
  ·omega):=h
def xU(h:p:=by
 have e1:=λw=>run_sizeOf hsz w
 have e2:=λw=>oS hz w
 have n1:¬(len*m>2^24):=A0
 have n2:¬(len*m=0):=A0
 simp only [Instr.buildSlice,lM,CZ hu,lq,e1,AE n1,AE n2,e2,xZ,f1,newRow];rfl):=h
def aM5(h:p:=by
 have hrun:(execOp a.eval o).run P w=.ok (.value<|.map<|ah w.heap.size) (w.alloc<|.map #[] 0):=by simp [execOp,ho,Instr.makeMap]
 rw [hrun,<-h1,<-h2];refine ⟨Z,β',b3,hF.mono AI b1 (λ_ h=>h) λb hz=>EG b4<|hW.Bc b hz,?_,?_,AI,b1,λk k1 k2=>?_,NI b4⟩
 ·simp only [R,b2]
 ·simp [okV]
 ·have:k=M H:=by simp at k2;omega
  rw [this,b2];exact .inl<|At _):=h
def mB(h:p:=by
 simp only [D3,CQ,ne_eq,Cj,Ga,Aa,DC,MB,Q9] at*;refine fin _ _ ?_ ?_<;>(clear fin w1a w1b w1c w3a w3b w4a w4b;omega)):=h
def aM0(h:p:=by
 simp only [D3,CQ,ne_eq,Cj,Ga,Aa,DC,MB,Q9] at*;refine fin _ _ ?_ ?_<;>(clear fin w0 w1a w1b w1c w4a w4b;omega)):=h
def aM1(h:p:=by
 simp only [D3,CQ,ne_eq,Cj,Ga,Aa,DC,MB,Q9] at*;refine fin _ _ ?_ ?_<;>(clear fin w0 w1a w1b w1c w3a w3b;omega)):=h
def NB(h:p:=by obtain ⟨h1,h2⟩:=same h;exact gen h1 h2):=h
def VG(h:p:=by
 simp only [renV,R] at*;rw [(h.at<|ho k Is).1];exact hr):=h
def Sh(h:p:=by exact ⟨False,.junk,GG,λH K=>by simp [T.all]⟩):=h
def Zv(h:p:=by
 split at h
 ·simp only [T.all,B0] at h
  rw [<-h.2];exact EvL.app _ _
 ·cases h):=h
def lu(h:p:=by
 simp only [renV,R,owns,okV] at*;obtain ⟨ys,h1,h2⟩:=hr;exact ⟨ys,h1,ren_RL h l _ ho hok h2⟩):=h
def xN(h:p:=by
 intro s hI;refine ⟨λc1=>⟨?_,?_,λ_=>trivial,λ_=>trivial⟩,λ_=>trivial⟩
 all_goals ((obtain ⟨h0,h1,h2,h3,h4⟩:=hI;simp at c1;omega))):=h
def Sj(h:p:=by
 have c1:s.n<=s.i:=A8
 exact ⟨rfl,A0⟩):=h
def Zw(h:p:=by exact val h2 (v:=z) KI e2 e3):=h
def aF(h:p:=by
 rintro s ⟨h0,h1,h2,h3⟩
 exact ⟨A0,A0,h1,h2,A0⟩):=h
def mI(h:p:=by
 simp only [R,okV] at*;obtain ⟨ys,h1,h2⟩:=h;exact ⟨ys,h1,RL.mono hβ hZ hw l _ hk h2⟩):=h
def aMW(h:p:=by
 split at h
 ·simp only [owns,HI] at hk
  split at h
  ·rename_i hb
   split at h
   ·grind
   ·cases h
  ·cases h
 ·simp [owns] at hk
 ·simp only [owns,HI] at hk
  subst hk;split at h
  ·rename_i hb;exact ⟨⟨_,hb,hr.1⟩,.inr ⟨_,_,_,rfl⟩⟩
  ·cases h
 ·cases h):=h
def aMX(h:p:=by
 unfold Ti
 (rw [AJ,h5] at c2;unfold koV;revert c2;generalize inB (OG s.l s.i).2.1 _ _=a;generalize inB (OG s.l s.i).2.2.1 _ _=b;generalize inB (OG s.l s.i).2.2.2 _ _=c;generalize List.contains (α:=Int) _ _=d;cases a<;>cases b<;>cases c<;>cases d<;>simp)):=h
def xn(h:p:=by
 split at h
 ·split at h
  ·rename_i hg
   rw [AD hg];rw [T.all_bind] at h|-;exact T.BY (λq hq=>hh _ _ hq) h
  ·cases h
 ·cases h):=h
def aG(h:p:=by
 rename_i ho;rcases h with h|h
 ·simp [Es,ho] at h
 ·simp [IZ,ho] at h):=h
def aH(h:p:=by
 rename_i ho;rcases h with h|h
 ·simp [Mw,ho] at h
 ·simp [IZ,ho] at h):=h
def mJ(h:p:=by
 refine ⟨c2,?_⟩
 have h6:=hI.2.2.1
 simp only [DC] at c3;rw [<-h6] at c3;unfold Ff;omega):=h
def aMY(h:p:=by
 have hh':w'.heap[r]? =ah (.map es clock):=aPi
 have hget:(getObj r).run P w'=.ok (.map es clock) w':=mq
 have hz0:=λw=>oS hz w
 simp [Instr.lookup,CZ hu,hy,hget,oL hku,Instr.findKey,CZ hku,hzq,q1,hz0]):=h
def mK(h:p:=by
 simp only [R,owns,okV] at*;obtain ⟨ys,h1,h2⟩:=h;exact ⟨ys,h1,RL.Ks l _ hj hk h2⟩):=h
def aMZ(h:p:=by
 rw [hrun,<-h1,<-h2];refine ⟨Z,β',b3,hF.mono AI b1 (λ_ h=>h) b4,?_,?_,AI,b1,λk k1 k2=>?_,NI<|(Below.refl _ _).alloc (At _) _⟩
 ·simp only [R,b2]
 ·simp [okV]
 ·have:k=M H:=by simp at k2;omega
  rw [this,b2];exact .inl<|At _):=h
def aMa(h:p:=by
 have:=e1 w' λb hb=>(hD w' hw').2 b (by
  rcases hb with hb|⟨k,e4,e5⟩
  ·exact .inl hb
  ·obtain ⟨bk,l1,l2⟩:=hlv k e4
   refine .inr ⟨k,bk,l1,l2,?_,e5⟩;unfold sI at hap;simp only [ho,e4] at hap
   simpa using hap)
 simp [execOp,ho,this]):=h
def mL(h:p:=by rw [Fp<|hl x FT]):=h
def aI(h:p:=by
 rintro s ⟨h0,h1,h2,h3⟩
 exact ⟨A0,A0,h1,h2,h3⟩):=h
def aMb(h:p:=by
 rw [show (s.i+1).toNat=s.i.toNat+1 by omega,E0,<-h5]
 have e1:s.o.getD s.i.toNat (Ty.dflt Af)=Ae s.o (s.i.toNat:Y):=by
  rw [DJ,Dg A0];rw [show Ae s.o (s.i.toNat:Y)=s.o[s.i.toNat]' A0 from Qj A0];rfl
 rw [e1];rfl):=h
def NC(h:p:=by rename_i ho;simp [isSp,ho] at hsp):=h
def Sn(h:p:=by
 have c1:s.n<=s.i:=AX
 exact VH):=h
def xo(h:p:=by
 have:=adb (P:=P) (G:=G) (Γ:=λ_=>aj) (F:=F) (y:=y) h
 unfold pux at this;unfold hpx;simp only [ho] at this|-;exact this):=h
def aMc(h:p:=by
 obtain ⟨_,⟨h2,h3,h4,h5⟩,_⟩:=hI
 have c2:((s.levels.getD (gi s.l s.k).toNat 0) !=(AA<|s.level-1))=true:=c2
 rw [AJ (x:=s.level-1)] at c2
 have c2:¬s.levels.getD (gi s.l s.k).toNat 0=s.level-1:=EY
 exact c2 h.1):=h
def xp(h:p:=by
 have:=Uk (β:=β) (Z:=Z) (w:=w)<|(au<|len*m).map λi=>z.cells[i%z.cells.size]!
 simpa [HK,Zj] using this):=h
def mM(h:p:=by
 simp only [R] at*;obtain ⟨ys,h1,h2⟩:=hh;exact ⟨ys,h1,RL.shut h o' l _ h2⟩):=h
def aMd(h:p:=by
 simp only [R];refine ⟨_,rfl,?_⟩;simp only [N9];refine RL.CU AI λi x hx=>?_
 rw [Df] at hx|-;cases hq:first.toList[i]? with
 |none=>simp [hq] at hx
 |some q=>simp [hq] at hx;subst hx;exact ⟨a.eval q,AI,(ev q).1⟩):=h
def aMe(h:p:=by
 have hh':w'.heap[r]? =ah (.map es clock):=aPi
 have hget:(getObj r).run P w'=.ok (.map es clock) w':=mq
 simp [Instr.lookup,CZ hu,hy,hget,oL hku,Instr.findKey,CZ hku,hzq,q1]):=h
def aMf(h:p:=by
 simp only [R];refine ⟨_,rfl,?_⟩;simp only [N9];refine RL.CU AI λi x hx=>?_
 rw [Df] at hx|-;cases hq:cap.toList[i]? with
 |none=>simp [hq] at hx
 |some q=>simp [hq] at hx;subst hx;exact ⟨a.eval q,AI,(ev q).1⟩):=h
def aMg(h:p:=by
 rw [AD (show Fg (Be s.p.ca s.i) (Cs s.p.mi s.i) (AG s.p.gs s.i).2.2.1 (Bo (AG s.p.gs s.i)<|BW s.p.st s.i)>Bo (AG s.p.gs s.i) (BW s.p.st s.i) from D5 c5)];rw [show CY s.p.gs s.p.st s.i 6 2 0=_ from AD<|eq_of_beq c6];rfl):=h
def aMh(h:p:=by
 rw [AD (show Fg (Be s.p.ca s.i) (Cs s.p.mi s.i) (AG s.p.gs s.i).2.2.1 (Bo (AG s.p.gs s.i)<|BW s.p.st s.i)>Bo (AG s.p.gs s.i) (BW s.p.st s.i) from D5 c5)];rw [show CY s.p.gs s.p.st s.i 6 2 0=_ from AE<|CQ.1 c6];rfl):=h
def OY(h:p:=by exact Jk us F H Z β F1 H1 hW hF h):=h
def xi(h:p:=by
 simp only [Bq] at hx;cases j with
 |zero=>simp at hx;subst hx;exact ⟨_,h,Ji⟩
 |succ j=>simp at hx):=h
def aME(h:p:=by
 rename_i f l hl;simp only [T.all,B0] at h;rw [hl] at hx
 have hx1:=hx.1
 simp only [R] at hx1;obtain ⟨ys,e1,_⟩:=hx1;refine val h.2.symm (v:=a.eval x) KI ?_ ?_<;>rw [<-h.1]
 ·exact hx.1
 ·exact hx.2):=h
def aMF(h:p:=by
 rename_i f l hl;simp only [T.all,B0] at h;rw [hl] at hx
 have hx1:=hx.1
 simp only [R] at hx1;obtain ⟨ys,e1,_⟩:=hx1;refine val (v:=a.eval x) (λw' _=>KI) ?_ ?_<;>rw [<-h.1]
 ·exact hx.1
 ·exact hx.2):=h
def aMG(h:p:=by
 obtain ⟨a,cap,h1,h2,h3⟩:=h;refine ⟨a,cap,by rw [<-h1];exact hb 0 aN,h2,λhn=>?_⟩
 obtain ⟨b',o',h4,h5,h6⟩:=h3 hn;exact ⟨b',o',h4,hZ _ h5,λi d hd=>RD.mono hZ hw e d b' _ h5<|h6 i d hd⟩):=h
def xj(h:p:=by
 obtain ⟨_,⟨cs,f2,f3⟩,_⟩:=ql hW hb hcl;refine ⟨cs,f2,?_⟩
 have:=RL.length f3
 simpa using this):=h
def aMH(h:p:=by
 rename_i t m i x ho;obtain ⟨H1,h1,h2⟩:=T.B8 h;simp only [T.all,B0] at h2;obtain ⟨h2,h3⟩:=h2;subst h3;obtain ⟨w',e1,e2,e3,e4,e6⟩:=adZ hW h1 (ev m).1 (ev i).1 (ev x).1 (ev x).2;exact aM4):=h
def xk(h:p:=by
 show M5 _ _ _=M5 _ _ _
 rw [Ip];unfold M5;simp only [D3,CQ,ne_eq] at*;simp only [AY,Cj,Aa];omega):=h
def aMI(h:p:=by
 rw [hrun];refine ⟨Z,β',e4,hF.mono A0 e3 (λ_ h=>h) λb hz=>EG e2<|hW.Bc b hz,e5,e6,A0,e3,λk k1 k2=>?_,NI e2⟩
 have:k=M H:=A0
 rw [this,e8];exact .inl<|At _):=h
def aMJ(h:p:=by
 refine RL.CU AI λi x hx=>?_
 rw [N9,Df];cases hq:args.toList[i]? with
 |none=>simp [hq] at hx
 |some q=>simp [hq] at hx;subst hx;exact ⟨a.eval q,AI,Ow (hF.eval hW.Cb q).1⟩):=h
def aMK(h:p:=by
 simp only [T.all,B0] at h;rw [hl] at hx
 have hx1:=hx.1
 simp only [R] at hx1;refine val h.2.symm (v:=a.eval x) (by simp [execOp,ho,hx1]) ?_ ?_<;>rw [<-h.1]
 ·exact hx.1
 ·exact hx.2):=h
def QE(h:p:=by
 simp [BC,An,Cn,hv,EW.ev,h]
 grind):=h
def aML(h:p:=by
 simp only [T.all,B0] at h;rw [hl] at hx
 have hx1:=hx.1
 simp only [R] at hx1;refine val (v:=a.eval x) (λw' _=>by simp [execOp,ho,hx1]) ?_ ?_<;>rw [<-h.1]
 ·exact hx.1
 ·exact hx.2):=h
def xm(h:p:=by
 rw [hg] at hq;simp only [IJ,FQ] at hq;rw [hq];exact .inr ⟨rfl,rfl,rfl,rfl,rfl,rfl,rfl⟩):=h
def aMM(h:p:=by
 intro s hI;refine ⟨λc1=>⟨?_,λc2=>⟨A9,ak⟩,λc2=>⟨A9,ak⟩⟩,λc1=>⟨A9,ak⟩⟩
 ·(obtain ⟨h0,h1,h2,h3⟩:=hI;simp only [Aa] at c1;omega)):=h
def aMN(h:p:=by
 refine AT.CU λi x hx=>?_
 rw [Df] at hx;cases hq:(vs.map (·.2))[i]? with
 |none=>simp [hq] at hx
 |some q=>simp [hq] at hx;subst hx;exact QS H hH 6 _<|AT.get i q hoka hq):=h
def aMO(h:p:=by
 rw [J9 h0 A0 j0,afF h0 A0 j0]
 by_cases e:j=s.i
 ·subst e
  rw [AD rfl,AD rfl,hx',hy'];exact ⟨rfl,rfl⟩
 ·rw [AE e,AE e]
  exact hA j j0 A0):=h
def aMP(h:p:=by
 rw [AE (show ¬Fg (Be s.p.ca s.i) (Cs s.p.mi s.i) (AG s.p.gs s.i).2.2.1 (Bo (AG s.p.gs s.i)<|BW s.p.st s.i)>Bo (AG s.p.gs s.i) (BW s.p.st s.i) from KF c5)];rfl):=h
def mH(h:p:=by
 rintro s ⟨h0,h1,h2⟩
 exact ⟨A0,A0,h1,h2⟩):=h
def aMQ(h:p:=by
 have c1:s.i<s.k:=AX
 refine .inr ⟨rfl,rfl,s.i.toNat,AZ,?_⟩
 have hg:Wr s s.i=false:=aPA
 exact hg):=h
def aMR(h:p:=by (have hx:=Qk s hI AX;obtain ⟨w1,w2⟩:=hU hI<|Qi hI c2;have hh:=IQ.1<|hI.2.2.2.1.has _ hx.1;have hb:=hI.2.1;(first|rw [w2] |rw [w1]);omega)):=h
def aE(h:p:=by
 rw [q3,hn,hl,F6 A0,hE.1] at hk
 grind):=h
def aMS(h:p:=by
 simp only [okV];refine AT.CU λi x hx=>?_
 rw [Df] at hx;cases hq:first.toList[i]? with
 |none=>simp [hq] at hx
 |some q=>simp [hq] at hx;subst hx;exact (ev q).2):=h
def aMT(h:p:=by
 refine ⟨hc.rw,?_,hc.near,hc.len,hc.old,hc.new,hc.K6⟩;exact hF1'.mono (At _) (λ_ _=>rfl) (λ_ h=>h) λb hz=>hc.near.block b (hW.Bc b hz)<|hW.ox hz):=h
def aMU(h:p:=by
 simp only [okV];refine AT.CU λi x hx=>?_
 rw [Df] at hx;cases hq:cap.toList[i]? with
 |none=>simp [hq] at hx
 |some q=>simp [hq] at hx;subst hx;exact (ev q).2):=h
def aMV(h:p:=by
 split at h
 ·split at h
  ·split at h
   ·simp only at h
    split at h
    ·rename_i hb;exact ⟨_,hb,ak⟩
    ·cases h
   ·cases h
  ·cases h
 ·cases h):=h
def mG(h:p:=by exact val (v:=z) (λw' _=>KI) e2 e3):=h
def aM8(h:p:=by
 have c1:s.t11<3:=AX
 rw [AJ (x:=s.t11+1)];exact ⟨⟨ht,⟨AZ,AZ⟩,h1,h2⟩,by simp only [fa];omega⟩):=h
def aM9(h:p:=by
 generalize BE (p.tk+1) (gi p.dr j)=x at*;generalize BE p.tk (gi p.dr j)=y at*;generalize BE (T+4) (gi p.dr j)=z at*
 clear this s1
 split<;>split<;>omega):=h
def aMA(h:p:=by
 rename_i x ho;simp only [T.all,B0] at h;refine val h.2.symm (v:=a.eval x) (by simp [execOp,ho]) ?_ ?_<;>rw [<-h.1]
 ·exact (ev x).1
 ·exact (ev x).2):=h
def aMB(h:p:=by
 intro s hI;refine ⟨λc1=>⟨?_,λ_=>trivial,λ_=>trivial⟩,λ_=>trivial⟩
 ·(obtain ⟨⟨h0,h1⟩,h2,h3,h4⟩:=hI;simp only [Aa] at c1;omega)):=h
def aMC(h:p:=by
 rename_i x ho;simp only [T.all,B0] at h;refine val (v:=a.eval x) (λw' _=>by simp [execOp,ho]) ?_ ?_<;>rw [<-h.1]
 ·exact (ev x).1
 ·exact (ev x).2):=h
def aD(h:p:=by
 show (w.heap.push _)[w.heap.size]? =_
 simp):=h
def Dw(h:p:=by simp only [R]):=h
def aMD(h:p:=by
 refine AT.CU λi x hx=>?_
 cases hq:args.toList[i]? with
 |none=>simp [hq] at hx
 |some q=>simp [hq] at hx;subst hx;exact TE (hF.eval hW.Cb q).2):=h
def xh(h:p:=by
 simp only [Ty.n] at hj
 have:j=0:=A0
 subst this;exact ⟨_,h,rfl⟩):=h
def aN6(h:p:=by
 unfold Qp;split
 ·rename_i op t x z _ ho
  simp only [e x FT,e z FT]
 ·rfl):=h
def xy(h:p:=by
 unfold M5;simp only [D3,CQ,ne_eq] at*;simp only [xJ,Ga,DC];omega):=h
def aN7(h:p:=by
 refine .inr ⟨q1,q2,?_⟩;rw [IM];intro hx
 have:=(Qb (d:=(0:Y))).2 hx j A0
 exact Bool.noConfusion<|this.symm.trans q4):=h
def aN8(h:p:=by rw [adf<|Fp<|hl q.2 aO9]):=h
def xz(h:p:=by
 rintro s ⟨h0,h1,h2⟩
 exact ⟨⟨A0,A0⟩,h1,h2⟩):=h
def aJ(h:p:=by
 have c1:s.k<=s.i:=A8
 exact xP):=h
def aN9(h:p:=by
 rw [e8.block k A0 λhm=>?_]
 ·exact hc.near.block k hk hn
 ·rcases hc.touch hst hm with h|h
  ·omega
  ·exact hn h):=h
def mP(h:p:=by (have hx:=Qk s hI AX;omega)):=h
def mQ(h:p:=by
 rintro s ⟨h0,h1⟩
 exact ⟨A0,h1⟩):=h
def y6(h:p:=by
 obtain ⟨y,zs,rfl,rfl,_⟩:=h;simp only [RD];exact hc 0 _ rfl):=h
def aNA(h:p:=by
 rename_i t m i x ho;unfold Ax at h;simp only [ho] at h;obtain ⟨H1,h1,h2⟩:=T.B8 h;obtain ⟨_,rfl⟩:=h2;exact afE h1):=h
def aNB(h:p:=by
 have:(j:Y)=s.i:=ml
 rw [this];exact hg):=h
def y7(h:p:=by
 rw [q1,q2,Qe j q3 q4];exact ⟨λ_=>rfl,λc=>Em⟩):=h
def aNC(h:p:=by
 have:Ce (r::rs) (x-i)=Ce rs (x-(i+1)):=by
  unfold Ce;rw [show (x-i).toNat=(x-(i+1)).toNat+1 by omega]
  simp
 grind):=h
def aND(h:p:=by
 split
 ·rename_i cs _
  exact ⟨True,.own k 0,⟨cs,t,.cl,X⟩,λH K=>aPR⟩
 ·exact Sh):=h
def aNE(h:p:=by
 go_enter func220,Tryz.ntmps220
 go_wp2
 refine wp_loop_rounds 1 ?_;rw [rounds_succ]
 go_wp2
 go_ret
 exact ⟨rfl,rfl⟩):=h
def y8(h:p:=by simp only [Ai] at hx;subst hx;simp only [R] at h1;rw [h1]):=h
def aNF(h:p:=by
 have c1:s.i<s.n:=A8
 rw [AJ (x:=s.i+1)];exact ⟨⟨A8,A8,h2,h3⟩,by simp only [wG];omega⟩):=h
def aNG(h:p:=by
 simp only [D3,CQ,ne_eq,Cj,Ga,Aa,DC,MB,Q9] at*
 (first|decide|(clear fin w0 w1a w1b w1c w4a w4b;omega))):=h
def aNH(h:p:=by
 split
 ·exact ⟨go _<|cM h hdd _,pass _<|cM h hdd _⟩
 ·exact ⟨pass _<|cM h hdd _,go _<|cM h hdd _⟩):=h
def aNI(h:p:=by
 rename_i x ho;unfold Ax at hs;simp only [ho,T.all,B0] at hs;exact other _ hs.1.symm hs.2.symm λj hj=>Su hj):=h
def aNJ(h:p:=by
 split at hx
 ·obtain ⟨rfl,_,hx⟩:=hx;exact ⟨_,_,hx⟩
 ·obtain ⟨_,ad,hx,_⟩:=hx;exact ⟨_,_,hx⟩):=h
def aNK(h:p:=by
 split at hx
 ·rename_i hk;subst hk;simp only [Ai] at hx;subst hx;simp only [R] at h1;rw [h1]
 ·cases hx):=h
def aNL(h:p:=by exact qF s _ hI AX aPX rfl rfl rfl rfl rfl rfl rfl rfl rfl rfl):=h
def aNM(h:p:=by exact qE s _ hI AX aPX rfl rfl rfl rfl rfl rfl rfl rfl rfl rfl):=h
def aNN(h:p:=by
 split
 ·rename_i zs hz
  simp only [R]
  have:=aQx hz h
  rw [<-this]
 ·simp only [R];exact ⟨ys,rfl,aFa h⟩):=h
def aMp(h:p:=by
 refine (afD _ A6).2.trans ?_;rw [h7]
 show FF _ 0 _ ((M s.p.AM.tg:Y)-0).toNat=_
 rw [QB,By,aoy];rfl):=h
def aMq(h:p:=by
 refine AH (λc5=>?_) λc5=>?_
 ·refine AH (λc6=>?_) (λc6=>?_)
  ·exact Zx
  ·exact Zx
 ·exact Zx):=h
def ND(h:p:=by exact gen<|same h):=h
def aMr(h:p:=by
 rename_i x ho;refine ⟨True,AL G F x,aj,λH K=>?_⟩
 unfold I7 Ax;rw [h1,h2]
 simp [ho,T.all,putAt]):=h
def xu(h:p:=by
 rw [AE e,h5 j j0 j1]
 by_cases q:j<s.i
 ·omega
 ·omega):=h
def xv(h:p:=by
 rintro s ⟨h0,h2⟩
 exact ⟨A0,A0,h2⟩):=h
def aMs(h:p:=by
 rintro s ⟨h0,h1,h2,h3,h4⟩
 exact ⟨A0,A0,h2,h3,h4,GD,λj hj=>A0⟩):=h
def aMt(h:p:=by
 have:=Td n<|(au<|len*m).map λi=>z.cells[i%z.cells.size]!
 simpa [HK,Zj] using this):=h
def aMu(h:p:=by
 rw [KK];exact hF.mono (At _) (λ_ _=>rfl) (λ_ h=> .inl<|.inl h) λb hz=>EG hbw<|hW.Bc b hz):=h
def xw(h:p:=by
 simp only [AY,D3] at hcalm
 simpa using hcalm.1.1.2):=h
def aMv(h:p:=by
 unfold I9;split
 ·rename_i hc
  split
  ·rw [J9 h.1 h.2 hj]
   split
   ·grind
   ·omega
  ·omega
 ·omega):=h
def aMw(h:p:=by exact ⟨⟨AZ,AZ,h2,h3,h4,h5,h6⟩,by simp only [fZ];omega⟩):=h
def aMx(h:p:=by
 simp only [C1];exact R.mono (n:=M H) (λ_ _=>rfl) (λ_ h=> .inl h) (λ_ _=>rfl) _ _ hk h):=h
def aMy(h:p:=by
 obtain ⟨_,_,h6,_⟩:=hI;simp only [Aa] at c3;rw [<-h6] at c3
 have:=h.2
 unfold Ff at this;omega):=h
def mN(h:p:=by exact .inr<|.inr<|.inr<|.inr rfl):=h
def VM(h:p:=by exact ⟨rfl,A0⟩):=h
def aMz(h:p:=by
 rintro s ⟨ht,h0,h1,h2,h3⟩
 exact ⟨ht,⟨A0,A0⟩,h1,A8,A8⟩):=h
def mO(h:p:=by
 unfold hpx;simp only [ho];exact mL):=h
def aN0(h:p:=by
 rw [IL A0,show (M fl:Y) / 2=((M fl / 2:aWe):Y) by omega]
 exact AJ):=h
def aN1(h:p:=by
 have h1:(0:Y)<=(x:Y)/\(x:Y)<=(y:Y):=A0
 simp [Instr.sliceBound,asIntOf,h1]):=h
def aN2(h:p:=by
 unfold HW;rw [AD,AD]
 ·exact ⟨rfl,rfl⟩
 ·rw [AY,BV,BV];omega
 ·rw [AY,BV,BV];omega):=h
def So(h:p:=by
 simp only [ho];rw [e]):=h
def aN3(h:p:=by
 rename_i x ho;unfold Ax;simp only [ho];rw [Fp<|hl x FT];rfl):=h
def aN4(h:p:=by exact R.mono (n:=0) (λ_ hk=>absurd hk A0) (λ_ h=>h) (λ_ _=>rfl) _ _ hk hr):=h
def aN5(h:p:=by
 subst h;exact EvL.set hb ⟨λhc=>yc,λ_ _ _=>trivial,λh=>h⟩):=h
def xx(h:p:=by
 have c1:s.m<=s.i:=AX
 exact VH):=h
def aMi(h:p:=by
 have c1:s.n<=s.i:=AX
 exact .inl ⟨rfl,λj hj=>h6 j A0⟩):=h
def aMj(h:p:=by
 rcases hz with hz|⟨k,bk,_,h2,h3,rfl⟩
 ·exact hW.Bc b hz
 ·exact hW.lt h2 h3):=h
def aMk(h:p:=by
 simp only [canX,R] at h|-;obtain ⟨ys,h1,h2⟩:=h;exact ⟨ys,h1,canL_R h2⟩):=h
def aMl(h:p:=by
 rw [hj.Un,hj.cl]
 have:apF 512 fl (B2 x)=false:=NF
 rw [this];rfl):=h
def xr(h:p:=by
 rcases BA.1 hi with e|e
 ·grind
 ·exact e):=h
def QF(h:p:=by simpa using this):=h
def xt(h:p:=by exact ⟨Z2,β2,c1,c2,by rw [c3];simp⟩):=h
def aMm(h:p:=by
 rw [KK];exact hF.mono (At _) (λ_ _=>rfl) (λ_ h=> .inl h) λ_ _=>rfl):=h
def aMn(h:p:=by exact main _ es clock _ _ hr g1 g2 g3 hl b2.2 h<|.inr ⟨k,rfl,rfl⟩):=h
def aMo(h:p:=by
 simp only [R,Value.func.injEq,Fn.yield.injEq] at this;exact this.1.symm):=h
def aNm(h:p:=by
 split
 ·omega
 ·have:=qD (x:=a-mi) (st:=st) A0 A0
  omega):=h
def aNn(h:p:=by exact EvL.set hb ⟨λhc=>yc,λ_ _ h=>h,λh=>h⟩):=h
def aNo(h:p:=by
 unfold GO chW at this;simp only [AY,BV] at this;exact IQ.2 A0):=h
def yE(h:p:=by exact ⟨A0,A0,h2,h3,h4⟩):=h
def aNp(h:p:=by
 rw [AD q2,Hj DD,GY DD]
 congr 1
 simp
 omega):=h
def aNq(h:p:=by
 have:=IQ.1 h
 have:=qD (x:=ma-mi) (st:=st) A0 A0
 omega):=h
def yF(h:p:=by
 intro _ _ _ _ _ _ _ _ _ h;exact h.elim):=h
def aNr(h:p:=by
 obtain ⟨h1,h2⟩:=pA b fs (k+1) i h;refine ⟨A0,?_⟩
 grind):=h
def yG(h:p:=by rw [<-h];exact W9<|by simpa using f2):=h
def mS(h:p:=by
 split at h
 ·grind
 ·cases h):=h
def aNs(h:p:=by
 split at h
 ·rename_i hkk
  simp only [R,okV] at hr hk
  grind
 ·cases h):=h
def aNt(h:p:=by
 rcases q2 with e2|e2<;>rw [e2] at hy
 ·exact hy
 ·exact aFV.subset hy):=h
def aNu(h:p:=by
 rw [AD q1];simp only [Zg,Ct];rw [Hj DD,aLz q1]
 simp):=h
def aNv(h:p:=by
 rintro s ⟨h0,h1,h2⟩
 exact ⟨A0,yp,h2⟩):=h
def aNw(h:p:=by
 obtain ⟨j,⟨h0,h1⟩,rfl⟩:=aEX ha
 have:=fc<|h.ch h0 h1
 omega):=h
def yH(h:p:=by
 have e1:=e1 w λ_ _=>rfl
 exact Zw):=h
def aNx(h:p:=by
 rw [hv] at s2;rw [aco hg hd s2,AE AI];exact passOk F hF h):=h
def aNy(h:p:=by
 have:fs.toList[M fpre]? =ah f:=by rw [e1];simp
 exact QF):=h
def aNz(h:p:=by (obtain ⟨h0,h1,h2,h3,h4⟩:=hI;simp only [Aa] at c1;omega)):=h
def aO0(h:p:=by
 rintro s ⟨h0,h2,h3,h4,h5⟩
 exact ⟨A0,h2,h3,h4,h5⟩):=h
def aO1(h:p:=by
 have:es=[]:=GD
 subst this;exact .inr ⟨rfl,h.symm⟩):=h
def aO2(h:p:=by exact ext q g n.toNat A0 hle A0 hr hk h.symm):=h
def aO3(h:p:=by
 obtain ⟨x,h1,h2⟩:=T.B8 h;simp only [T.all,B0] at h2
 grind):=h
def yI(h:p:=by rw [hl];simpa only [okV] using hk):=h
def aO4(h:p:=by exact val (v:=z) (λw' _=>aPQ) f2 f3):=h
def aK(h:p:=by
 split
 ·grind
 ·grind):=h
def aNQ(h:p:=by
 have:=h.2
 unfold JU at this;split at this
 ·assumption
 ·omega):=h
def yA(h:p:=by
 split at h
 ·cases h;rfl
 ·cases h):=h
def aNR(h:p:=by
 rintro s ⟨h0,h2,h3⟩
 exact ⟨A0,A0,h2,h3⟩):=h
def aNS(h:p:=by
 have:es=[]:=GD
 subst this;exact .inr ⟨rfl,rfl⟩):=h
def yB(h:p:=by rename_i hc;exact absurd hc hcap):=h
def aNT(h:p:=by
 have hG':=hG
 simp only [GX,EZ,hb,T.all] at hG';exact hG'.1):=h
def aNU(h:p:=by
 simp only [T.all,B0] at h;rw [<-h.2.2];exact EvL.app _ _):=h
def aNV(h:p:=by exact ⟨qy hI AX<|Qi hI c2,rfl,rfl⟩):=h
def aNW(h:p:=by
 unfold hpx;simp only [ho];rw [og (λcs b e=>A8) h]):=h
def aNX(h:p:=by
 rintro s ⟨h0,h2,h3,h4⟩
 exact ⟨A0,h2,h3,h4⟩):=h
def aNY(h:p:=by
 unfold az;simp only [yielded,hd,OR,hv]
 grind):=h
def aNZ(h:p:=by rename_i x ho;rw [e x FT]):=h
def aNa(h:p:=by rw [AE hs];exact ⟨λh=>h.elim,λh=>absurd h.1 hs⟩):=h
def aNb(h:p:=by
 unfold PK.isC at hh;simp only [ne_eq,Q5,BV] at hh;omega):=h
def aNc(h:p:=by exact val h2 (v:=z) aPQ f2 f3):=h
def aNd(h:p:=by
 refine AH (λc6=>?_) λc6=>?_
 ·exact aM3
 ·exact aM3):=h
def aNe(h:p:=by
 rw [LD] at hv;split at hv
 ·exact hc j v hv
 ·cases hv):=h
def yC(h:p:=by exact .inr ⟨i',.inl h1,h2⟩):=h
def aNf(h:p:=by
 simp [IntKind.wrap,IntKind.bits,IntKind.signed]
 omega):=h
def aNg(h:p:=by
 rcases mem_set hm with hm|rfl
 ·exact h.mi m hm
 ·simp):=h
def aNh(h:p:=by
 refine ⟨λc7=>?_,λc7=>?_⟩
 ·exact m9
 ·exact m9):=h
def aNi(h:p:=by
 refine ⟨λc7=>?_,λc7=>?_⟩
 ·exact aM0
 ·exact aM0):=h
def aNj(h:p:=by
 refine ⟨λc8=>?_,λc8=>?_⟩
 ·exact aM1
 ·exact aM1):=h
def aNk(h:p:=by exact T.BY (λz hz=>by simp only [T.all];rw [hz]) h):=h
def yD(h:p:=by
 obtain ⟨h1,h2⟩:=ada h
 grind):=h
def aNl(h:p:=by
 refine AH (λc6=>?_) λc6=>?_
 ·cases c5
 ·cases c5):=h
def aNO(h:p:=by
 rw [BL]
 show s.n+1-((M s.Cx+1:aWe):Y)=_
 omega):=h
def y9(h:p:=by
 rw [bad he Ab,he];rfl):=h
def aNP(h:p:=by
 by_cases hji:(j:Y)<s.i
 ·exact h6 j hji
 ·exact aNB):=h
def A0(h:p:=by omega):=h
def A8(h:p:=by grind):=h
def Dh(h:p:=by first|omega|exact ⟨rfl,rfl⟩ |exact ⟨rfl,by simp⟩ |exact ⟨by simp,by simp⟩ |(rw [Ci];omega)):=h
def AX(h:p:=by simpa using c1):=h
def AZ(h:p:=by simp only;omega):=h
def AU(h:p:=by kernel_rfl):=h
def AI(h:p:=by simp):=h
def aOB(h:p:=by unfold Tn;(obtain ⟨e0,e1,e2,e3,e4⟩:=h3;have hb:=e3 (gi s.l s.i).toNat;have c2:=c2;rw [AJ (x:=s.sums.getD (gi s.l s.i).toNat (Ty.dflt A7)+s.more) (by show _<=s.sums.getD (gi s.l s.i).toNat 0+s.more;omega) (by show s.sums.getD (gi s.l s.i).toNat 0+s.more<=_;omega)] at c2;unfold Kt;first|(have c3:(!(an<|s.sums.getD (gi s.l s.i).toNat 0+s.more<=(Ce s.BM<|gi s.l s.i).1))=true:=c2;simpa using c3) |(have c3:(!(an<|s.sums.getD (gi s.l s.i).toNat 0+s.more<=(Ce s.BM<|gi s.l s.i).1))=false:=c2;simpa using c3))):=h
def Ab(h:p:=by decide):=h
def MD(h:p:=by first|omega|exact ⟨rfl,rfl⟩ |exact ⟨rfl,by simp⟩ |(rw [Ci];omega)):=h
def mZ(h:p:=by first|omega|exact ⟨rfl,rfl⟩ |exact ⟨rfl,by rw [By];first|exact l1.symm|exact l2.symm|exact l3.symm⟩ |exact ⟨rfl,by simp⟩ |exact ⟨by simp,by simp⟩ |(rw [Ci];omega)):=h
def Ao(h:p:=by cases h):=h
def FT(h:p:=by rw [ho];simp [Op.operands]):=h
def aOC(h:p:=by unfold OF;(simp only [show an (s.i<1)=X from IP<|by omega,D4];(simp only [chB,chA];revert c2;generalize JR s.text s.i=b;intro c2;by_cases h1:b>=97<;>by_cases h2:b<=122<;>by_cases h3:b>=48<;>by_cases h4:b<=57<;>simp_all))):=h
def VR(h:p:=by simp [execOp,ho,resolve,invoke,builtin,Builtin.len_,ha,ht,CZ hu,e1,goInt]):=h
def VS(h:p:=by simp only [renV,okV];have:=(aDB 0<|ho k<|by simp [owns]).2.2;omega):=h
def aOD(h:p:=by unfold Tf;(first|(have c2:(!(inB (ON s.l s.i).2 0<|AA<|(M s.BQ:Y)-1))=false:=c2;simpa using c2) |(have c2:(!(inB (ON s.l s.i).2 0<|AA<|(M s.BQ:Y)-1))=true:=c2;simpa using c2))):=h
def aT(h:p:=by rw [ho];simp only [Op.operands,Call.operands,aok];exact .inr<|by grind):=h
def aOE(h:p:=by unfold Th;(first|(have c2:(!(GO (M s.BG) (M s.Bf)<|AG s.l s.i))=false:=c2;simpa using c2) |(have c2:(!(GO (M s.BG) (M s.Bf)<|AG s.l s.i))=true:=c2;simpa using c2))):=h
def EY(h:p:=by simpa using c2):=h
def VT(h:p:=by simp only [RD] at*;rw [<-h];exact hb 0<|by simp [Ty.n]):=h
def DD(h:p:=by simp;omega):=h
def Is(h:p:=by simp [owns]):=h
def aU(h:p:=by simp only [C1,okV] at*;exact aDG h λx hx=>QS H hH d x hx):=h
def aOF(h:p:=by unfold Tk;(first|(have c2:(!(Ag s.a s.i==Ag s.b s.i))=false:=c2;simpa using c2) |(have c2:(!(Ag s.a s.i==Ag s.b s.i))=true:=c2;simpa using c2))):=h
def aV(h:p:=by unfold Fv;rw [hw D (hW.Cr D hD).1];exact (hW.Cr D hD).2):=h
def aOG(h:p:=by unfold Tj;(first|(have c2:(!(I5 s.i<|Ae s.l s.i))=false:=c2;simpa using c2) |(have c2:(!(I5 s.i<|Ae s.l s.i))=true:=c2;simpa using c2))):=h
def Sq(h:p:=by have:=hW.lt hj lj;simp only at e;omega):=h
def aOH(h:p:=by unfold Tm;(first|(have c2:(!(I0<|gi s.l s.i))=false:=c2;simpa using c2) |(have c2:(!(I0<|gi s.l s.i))=true:=c2;simpa using c2))):=h
def aW(h:p:=by simp only [renV,okV,owns] at*;exact ren_okL l ho hk):=h
def VU(h:p:=by simp [aA,Instr.sameNow,hk.1,hb]):=h
def KI(h:p:=by simp [execOp,ho,e1]):=h
def aX(h:p:=by simp only [okV,noOwn] at*;exact noOwnL_ok l h hk):=h
def aO(h:p:=by simp only [owns,okV] at*;exact okL_owns l hk j h):=h
def aP(h:p:=by simp only [owns,okV] at*;exact okL_lower l hk h):=h
def OZ(h:p:=by rw [w7] at c3;exact D5 c3):=h
def azz(h:p:=by rw [By];first|exact l1.symm|exact l2.symm|exact l3.symm):=h
def mV(h:p:=by simp [execOp,ho,e1,e2,eqGuard,binOp,Op.shift,aM2.2 h0]):=h
def QG(h:p:=by rw [<-x7 (xs:=args),hargs]):=h
def QH(h:p:=by unfold PK.isC;simpa using c):=h
def aQ(h:p:=by simp only [R,okV] at*;rw [hβ k hk];exact h):=h
def aO7(h:p:=by show _<=s.sums.getD (gi s.l s.i).toNat 0+s.more;omega):=h
def aO8(h:p:=by show s.sums.getD (gi s.l s.i).toNat 0+s.more<=_;omega):=h
def mW(h:p:=by simp only [R] at*;rw [hj k<|by simp [owns]];exact h):=h
def Sp(h:p:=by simp only [aD9,aD8,aD7];exact h3):=h
def aR(h:p:=by have:=hW.Bc _ hz;simp only at this;omega):=h
def VQ(h:p:=by simp [owns] at h;subst h;exact hk):=h
def mX(h:p:=by simp [execOp,ho,e1,e2,eqGuard,binOp,Op.intDiv,h0]):=h
def Ir(h:p:=by simpa using c):=h
def aO9(h:p:=by rw [ho];simp only [Op.operands];first|exact F5.2 ⟨q,hq,rfl⟩ |(simp;exact ⟨q.1,by grind⟩)):=h
def Ji(h:p:=by simp only [R]):=h
def yJ(h:p:=by rw [ho];simp only [Op.operands,aol,F5];exact ⟨q,hq,rfl⟩):=h
def aS(h:p:=by unfold HS;simp only [MA,FO];omega):=h
def Em(h:p:=by cases c):=h
def aOA(h:p:=by simp only [R,b2];exact ⟨by omega,⟨w.heap.size,0,aj⟩,by simp,λ_=>by simp⟩):=h
def GD(h:p:=by simp_all):=h
def mY(h:p:=by simp only [okV] at*;exact AT.mono h l hk):=h
def QI(h:p:=by simp only [aDD];omega):=h
def MC(h:p:=by rw [he];decide):=h
def aO5(h:p:=by unfold Tl;(obtain ⟨_,g1,g2⟩:=h3;rw [AJ (x:=s.n-1)] at c2;simpa using c2)):=h
def VN(h:p:=by simp only [okV] at*;omega):=h
def NF(h:p:=by simpa using c3):=h
def aL(h:p:=by show M p.gs<=1000;omega):=h
def VO(h:p:=by simpa only [R] using hh):=h
def mT(h:p:=by simp only [BL,GB,Bj,Bt];omega):=h
def aM(h:p:=by rw [<-e1,<-e2];exact hc.rf):=h
def aO6(h:p:=by unfold JF;cases e1:B4 l<;>cases e2:inB t 0 1100000<;>simp_all):=h
def aN(h:p:=by simp [Ty.n]):=h
def mU(h:p:=by unfold Ax;simp only [ho,hm,ht]):=h
def VZ(h:p:=by rw [AY,BV,BV];omega):=h
def yQ(h:p:=by show (M s.p.AM.gs:Y)<=1000;omega):=h
def aOa(h:p:=by simp [execOp,ho,e1,e2,Instr.index,asIntOf,CZ hu,h0,JR,hg]):=h
def aZ(h:p:=by simp [az,hg]):=h
def Va(h:p:=by simp [World.setRow]):=h
def aOb(h:p:=by have:=hb j;(try simp only []);split<;>(try split)<;>omega):=h
def yR(h:p:=by simp only [RD] at*;rw [QN hb];exact h):=h
def ME(h:p:=by simp [okV]):=h
def aOc(h:p:=by show ((M (ML<|LN d t).out:aWe):Y)<20;omega):=h
def aOd(h:p:=by simp only [I6,T.lv,Keeps];exact ⟨h.1,h.2,ak⟩):=h
def aOe(h:p:=by unfold LA;rw [wa];simp only [Dl];rw [CP h0,<-hb];rfl):=h
def bB(h:p:=by rw [<-e2];exact hc.rw):=h
def yS(h:p:=by simp only [RD] at*;exact oQ h o' hh):=h
def mq(h:p:=by simp [getObj,Sem.run,hh']):=h
def aOf(h:p:=by unfold leB;rw [wa];simp only [Ey];rw [CP h0,<-hb]):=h
def LH(h:p:=by cases hb):=h
def Vb(h:p:=by simp [owns] at h):=h
def aOg(h:p:=by have:=hf 0;simp at this;simp [List.getD,<-this]):=h
def aOh(h:p:=by simp [IntKind.wrap,IntKind.bits,IntKind.signed]):=h
def mr(h:p:=by simp only [R];rw [hv,e]):=h
def aOi(h:p:=by simp only [R] at*;rw [h,hj k<|by simp [owns]]):=h
def mv(h:p:=by simpa only [DP] using h):=h
def mw(h:p:=by simpa only [GN] using h):=h
def aOj(h:p:=by unfold Uo;(simp only [inB];simp at c2|-;omega)):=h
def aOk(h:p:=by have:=hf<|j+1;simpa [Hp,xY 1 j] using this):=h
def aOl(h:p:=by have:=ho<|j+1;simpa [Hp,xY 1 j] using this):=h
def aON(h:p:=by unfold AB.owns;rw [hbk];exact BX.2<|.inr hj):=h
def yL(h:p:=by rw [qC<|by omega];exact GZ _):=h
def aOO(h:p:=by simp [Array.getD,show 0<1+vals.size by omega]):=h
def VX(h:p:=by simp at c;omega):=h
def aOP(h:p:=by unfold To;(simp only [Aa,DC] at c2|-;omega)):=h
def mh(h:p:=by simp only [Ty.n];omega):=h
def mj(h:p:=by simpa [NS,ho] using ht):=h
def yM(h:p:=by simp only [Act.eval];exact hv):=h
def aOQ(h:p:=by unfold G2;rw [AD hp,AE (by rw [q3];simp)]):=h
def Sr(h:p:=by simp [BD,hb]):=h
def ml(h:p:=by simp only at hj;omega):=h
def yN(h:p:=by show ((0:aWe):Y)<=0;decide):=h
def aOR(h:p:=by rw [IL<|by omega];exact VF _<|by omega):=h
def yO(h:p:=by simpa using BO.1 htr0 k hk):=h
def yP(h:p:=by rw [Df,Dg<|by omega];rfl):=h
def aOS(h:p:=by rw [ho];simp [Op.operands,Call.operands]):=h
def NG(h:p:=by cases hk):=h
def aOT(h:p:=by simp only [HX];rw [AE λhh=>by omega]):=h
def aOU(h:p:=by show p.AM.tk+1=_;rw [(KO p).2.2.2.2.2.1]):=h
def VY(h:p:=by rw [c];decide):=h
def aOV(h:p:=by unfold lpC;rw [By];exact pJ<|by omega):=h
def aOW(h:p:=by unfold leC;rw [By];exact pJ<|by omega):=h
def aOX(h:p:=by simp [execOp,ho,Instr.makeFunc,hfirst]):=h
def aOY(h:p:=by simp only [R] at hr|-;rw [Qc];exact hr):=h
def mm(h:p:=by rw [QP.2 hv];decide):=h
def aOZ(h:p:=by unfold G2;rw [AD hp,AD q2,<-r1,<-w1]):=h
def aY(h:p:=by simp [Gx,h1,h2]):=h
def aOI(h:p:=by rw [cell_of_block hc];simpa using h1):=h
def aOJ(h:p:=by simp [execOp,ho,e1,Instr.extract,e6]):=h
def aOK(h:p:=by simp [execOp,ho,Instr.makeFunc,hcap]):=h
def yK(h:p:=by simp [az,hgd]):=h
def aOL(h:p:=by rw [aFU];exact λx hx=>h x<|by grind):=h
def VW(h:p:=by rw [<-e];rfl):=h
def mf(h:p:=by have:=D5 c1;omega):=h
def mg(h:p:=by rw [h5];exact NM _):=h
def aOM(h:p:=by show (M s.p.tg:Y)<=1000;omega):=h
def aP6(h:p:=by unfold JF;rw [h,BV.2<|by omega];rfl):=h
def aP7(h:p:=by unfold IV at hz;simpa [hi] using hz):=h
def bF(h:p:=by simpa using he):=h
def bH(h:p:=by simpa using hj):=h
def aP8(h:p:=by have:=RL.length hr;simpa using this):=h
def bI(h:p:=by rw [c1];decide):=h
def bJ(h:p:=by rw [c2];decide):=h
def ye(h:p:=by rw [<-hops];exact hcalm):=h
def yf(h:p:=by unfold GJ;rw [AD hc.1]):=h
def mz(h:p:=by simp [noOwn] at h):=h
def aP9(h:p:=by unfold Te;(try simp only []);omega):=h
def aPA(h:p:=by unfold Wr;(unfold raC Cw;simp_all)):=h
def aPB(h:p:=by rcases hc with e|e<;>rw [e]<;>simp):=h
def aPC(h:p:=by cases r3.symm.trans ((D2 _).mp c)):=h
def aPD(h:p:=by simp [stepG,stepG.exec,Frame.atR]):=h
def yg(h:p:=by rw [hv.FE];exact At _):=h
def bK(h:p:=by rw [Gq];omega):=h
def bL(h:p:=by rw [h4];omega):=h
def QK(h:p:=by cases hx):=h
def nB(h:p:=by simp at c3;omega):=h
def aPE(h:p:=by show (M gs:Y)<=1000;omega):=h
def aPF(h:p:=by show (M cs:Y)<=1000;omega):=h
def aPG(h:p:=by unfold Au;(repeat' split)<;>simp):=h
def aPH(h:p:=by show (M ds:Y)<=5000;omega):=h
def aPI(h:p:=by rw [AE<|by decide] at hu;omega):=h
def yh(h:p:=by unfold An;rw [e1];rfl):=h
def aOs(h:p:=by show [(se,_)]=[(se,fl)];rw [z2]):=h
def aOt(h:p:=by simpa only [GX,EZ,hb] using hG):=h
def Vc(h:p:=by simp [Zj]):=h
def aOu(h:p:=by have:=okV_owns _ r3 k hk;omega):=h
def aOv(h:p:=by rw [IW<|by omega];exact GZ _):=h
def yW(h:p:=by simp only [qR];omega):=h
def yX(h:p:=by rw [hu] at c;cases c):=h
def aOw(h:p:=by rw [aFW];exact hc y<|by grind):=h
def yY(h:p:=by simpa [Vp] using ht):=h
def yZ(h:p:=by simp [List.getD,hj]):=h
def ya(h:p:=by rw [hv.dr];exact j1):=h
def yb(h:p:=by rw [KJ];exact At _):=h
def my(h:p:=by simpa using hl):=h
def QJ(h:p:=by cases e):=h
def aOx(h:p:=by simpa only [GX,EZ] using hG):=h
def aOy(h:p:=by simp [setObj,Sem.run,w',g1]):=h
def yc(h:p:=by simp [AB.E4] at hc):=h
def Ve(h:p:=by simp [ho]):=h
def aOz(h:p:=by rw [hls];exact (Hk.1 ho).1):=h
def aP0(h:p:=by intro x hx;simp at hx;omega):=h
def aP1(h:p:=by rw [CP h0,FJ,Of h0 hm,hx']):=h
def yd(h:p:=by rw [he];assumption):=h
def aP2(h:p:=by rw [Dv.2 h] at c1;cases c1):=h
def aP3(h:p:=by rw [hsz];exact hW.Bc b' hz):=h
def aP4(h:p:=by simpa using (hW.gh p hp).2):=h
def aP5(h:p:=by simp [execOp,ho,e1,asBool]):=h
def aOm(h:p:=by simp only [R] at*;exact h3):=h
def aOn(h:p:=by unfold D1.a Fg;rw [AD hB]):=h
def aOo(h:p:=by unfold PK.AM;rw [AD h.up]):=h
def yT(h:p:=by cases x<;>exact h):=h
def yU(h:p:=by simp only [BZ,g2]):=h
def bE(h:p:=by simp at hl):=h
def aOp(h:p:=by simpa only [okV] using hk):=h
def aOq(h:p:=by simp only [DN,T.all] at h):=h
def aOr(h:p:=by simp only [C3];exact h10):=h
def yV(h:p:=by simp only [C1,R]):=h
def aPY(h:p:=by simp [getObj,Sem.run,g1]):=h
def yv(h:p:=by rw [h5];exact e1):=h
def Vh(h:p:=by cases hd):=h
def yw(h:p:=by rw [T1,T1];omega):=h
def yx(h:p:=by simp at c4;omega):=h
def aPZ(h:p:=by rw [h2,BL,acv,Ci];omega):=h
def yy(h:p:=by rw [hL];exact aDh):=h
def aPa(h:p:=by simp only [C3];exact h9):=h
def aPb(h:p:=by rw [hb];exact TA _ _ _ _):=h
def aPc(h:p:=by rw [hB];exact TA _ _ _ _):=h
def yz(h:p:=by rw [h.up];decide):=h
def aPd(h:p:=by simpa using (ho 0).symm):=h
def aPe(h:p:=by simpa only [RL] using h):=h
def aPf(h:p:=by have:=(q2 hm).2.1;omega):=h
def aPg(h:p:=by rw [AD hh] at he;omega):=h
def aPh(h:p:=by rw [AY,BV,BV,e6];omega):=h
def aPi(h:p:=by rw [hw' r hzr];exact hh):=h
def bM(h:p:=by simp [RL]):=h
def z7(h:p:=by simpa using hwt):=h
def z8(h:p:=by simp [c0,T.all]):=h
def z9(h:p:=by simp [c1,T.all]):=h
def zA(h:p:=by simp [c2,T.all]):=h
def zC(h:p:=by simp [c3,T.all]):=h
def zD(h:p:=by simp [c4,T.all]):=h
def zE(h:p:=by simp [c5,T.all]):=h
def aPj(h:p:=by rw [<-x7 (xs:=ty),ht]):=h
def aPJ(h:p:=by simpa [On,ho] using hm):=h
def aPK(h:p:=by simpa [ownsL] using hj):=h
def aPL(h:p:=by rw [<-hL.len];exact ho):=h
def aPM(h:p:=by rw [hg];simpa using c5):=h
def aPN(h:p:=by rw [hb];exact cy _ _ _):=h
def aPO(h:p:=by rw [hB];exact cy _ _ _):=h
def aPP(h:p:=by simp only;rw [h.1];rfl):=h
def nG(h:p:=by rw [eP];rfl):=h
def aPQ(h:p:=by simp [execOp,ho,e1,f1]):=h
def ym(h:p:=by simpa using hx):=h
def Vg(h:p:=by rw [b2]):=h
def yn(h:p:=by simp [Mx] at h):=h
def aPR(h:p:=by simp only [T.all,FR]):=h
def yo(h:p:=by simpa using hk):=h
def aPS(h:p:=by simp [HE] at h1;omega):=h
def yp(h:p:=by rw [h0,h1];rfl):=h
def yq(h:p:=by simpa using c4):=h
def yr(h:p:=by rw [FO];omega):=h
def aPT(h:p:=by rw [By];exact pX rfl):=h
def aPU(h:p:=by unfold Er;rw [AD hE]):=h
def yt(h:p:=by rw [hE];decide):=h
def aPV(h:p:=by unfold Cn;rw [e1];rfl):=h
def aPW(h:p:=by unfold An;rw [he];rfl):=h
def yu(h:p:=by simp [Bq,RL,R]):=h
def aPX(h:p:=by unfold G2;rw [AE hn]):=h
def nH(h:p:=by rw [hl,h2]):=h
def yi(h:p:=by rw [KJ];omega):=h
def yj(h:p:=by simpa using e):=h
def Vf(h:p:=by rw [h]):=h
def nC(h:p:=by simp [w']):=h
def MF(h:p:=by rfl):=h
def yk(h:p:=by rw [<-hrec]):=h
def yl(h:p:=by rw [qX,Ci]):=h
def nD(h:p:=by simp [h]):=h
def nF(h:p:=by cases hi):=h
def nI(h:p:=by cases hp):=h
def zF(h:p:=by simp at hk):=h
def zG(h:p:=by rw [h1,h2]):=h
end Go
namespace Go.Proofs.YtoifmkifedcnnaaGreatDoor
abbrev _root_.Go.AA:Int→Int:=Go.IntKind.i64.wrap
theorem _root_.Go.A9 {α β:Sort _}{a:α}{b:β}:a=a∧b=b:=⟨rfl,rfl⟩
set_option maxRecDepth 100000
set_option maxHeartbeats 4000000
open Go.Proofs.Tryz
open Go.RowKit
structure More where
 g:Array Obj
 d:aWe
instance:Inhabited More:=⟨⟨#[],0⟩⟩
open Go Go.RowKit
section
variable {P : Program} {ops : Array Oper} {md : Region.Mode} {G : Type} {D : World -> Prop} {C : G -> World -> Prop} {sp : Nat -> Bool}
def pZ (P:aWt) (w:aWq) (v:aWx):aXf->Prop
 | .ok (.value u) w'=>w'=w/\u=v
 | .ok .skip w'=>w'=w/\v=undef
 | .ok (.enter f args) w'=>w'=w/\Calls P f args w (λe w''=>e=.returned v/\Below w.heap.size w w'')
 |_=>False
def Nb (P:aWt) (o:aWw) (a:aWD) (w:aWq) (v:aWx):Prop:=pZ P w v<|(execOp a.eval o).run P w
def calm (P:aWt) (o:aWw) (a:aWD) (D:aWq->Prop) (next:aWD->Prop):Prop:=∃v,(∀w,D w->Nb P o a w v)/\next (a.put o.dst v)
def Di (P:aWt) (R:aWx->aWq->Prop):aXf->Prop
 | .ok (.value v) w'=>R v w'
 | .ok .skip w'=>R undef w'
 | .ok (.enter f args) w'=>Calls P f args w' λe w''=>∃v,e=.returned v/\R v w''
 | .ok (.round l f tmps assign body) w'=>RoundIn Fence.wide 0 P l f tmps assign body w' λe w''=>∃v,e=.returned v/\R v w''
 |_=>False
abbrev Dd (r:aWG):Fence:={Fence.wide with round:=r}
def semAt_eq {o:aWw}{r:aWG}{ρ:aWS->aWx}(h:∀c,o.op≠ .defer c):o.semAt r ρ=execOp ρ o:=by
 unfold Oper.semAt;split
 ·rename_i c hc
  grind
 ·rfl
def aDW {o:aWw}{ρ:aWS->aWx}{w:aWq}{c:Call}(h:o.op=.defer c):(∃d w',(execOp ρ o).run P w=.ok (.defer d) w')\/(∃x w',(execOp ρ o).run P w=.halt x w'):=by
 unfold execOp;cases hr:(resolve ρ c o.type).run P w with
 |ok d w'=>left;exact ⟨d,w',GD⟩
 |halt x w'=>right;exact ⟨x,w',GD⟩
def Tx (P:aWt) (o:aWw) (a:aWD) (C:G->aWq->Prop) (g:G) (K:aWD->G->Prop):Prop:=
 ∀w,C g w->Di P (λv w'=>∃g',C g' w'/\K (a.put o.dst v) g') ((execOp a.eval o).run P w)
def EB (P:aWt) (ops:aWm) (D:aWq->Prop) (C:G->aWq->Prop) (sp:aWe->aWo) (i:aWe) (K:aWD->G->Prop) (a:aWD) (g:G):Prop:=
 match ops[i]? with
 |none=>K a g
 |some o=>if az o (yielded ops a.tmps) then (if sp i then Tx P o a C g K else calm P o a D λa'=>K a' g) else K (a.put o.dst undef) g
def pL {o:aWw}{a:aWD}{K K':aWD->Prop}(h:∀a,K a->K' a) (hh:calm P o a D K):calm P o a D K':=
 let ⟨v,h1,h2⟩:=hh
 ⟨v,h1,h _ h2⟩
def KM {R R':aWx->aWq->Prop}(h:∀v w,R v w->R' v w) {r:aXf}(hh:Di P R r):Di P R' r:=by
 cases r with
 |ok n w'=>
  cases n<;>simp only [Di] at hh|-
  case value u=>exact h _ _ hh
  case skip=>exact h _ _ hh
  case enter f args=>exact hh.mono λe w'' ⟨v,he,hr⟩=>⟨v,he,h _ _ hr⟩
  case round l f tmps assign body=>exact hh.mono λe w'' ⟨v,he,hr⟩=>⟨v,he,h _ _ hr⟩
 |halt x w'=>simp only [Di] at hh
def aEj {o:aWw}{a:aWD}{g:G}{K K':aWD->G->Prop}(h:∀a g,K a g->K' a g) (hh:Tx P o a C g K):Tx P o a C g K':=
 λw hw=>KM (λ_ _ ⟨g',hc,hk⟩=>⟨g',hc,h _ _ hk⟩)<|hh w hw
def aGS {i:aWe}{a:aWD}{g:G}{K K':aWD->G->Prop}(h:∀a g,K a g->K' a g) (hh:EB P ops D C sp i K a g):EB P ops D C sp i K' a g:=by
 unfold EB at*;split
 ·grind
 ·rename_i o ho
  simp only [ho] at hh;split
  ·rename_i hw
   simp only [hw,Bp] at hh;split
   ·rename_i hs;simp only [hs,Bp] at hh;exact aEj h hh
   ·rename_i hs;simp only [hs] at hh;exact pL (λa=>h a g) hh
  ·grind
def KZ (P:aWt) (md:aXb) (ops:aWm) (D:aWq->Prop) (C:G->aWq->Prop) (sp:aWe->aWo) (Q:aWD->G->Prop):aWe->aWy->aWD->G->Prop
 |0,listed,a,g=>ay md ops listed=[]/\Q a g
 |fuel+1,listed,a,g=>
  (ay md ops listed=[]->Q a g)/\
  ∀i∈ay md ops listed,EB P ops D C sp i (KZ P md ops D C sp Q fuel<|listed.setIfInBounds i U) a g
def aEb {r:aWG}{m l:aWe}{f:aWF}{tmps:aWz}{assign body:aWO}{w:aWq}{R:Ending->aWq->Prop}(h:RoundIn Fence.wide 0 P l f tmps assign body w R):RoundIn (Dd r) m P l f tmps assign body w R:=
 ⟨ak,λc cs _=>h.2 c cs<|room_wide _⟩
def aeS {o:aWw}{a:aWD}{K:aWD->Prop}{K':aWD->aWq->Prop}{Q':aW4->aWD->aWq->Prop}{w:aWq}(hw:D w)
  (h:∀a w',Below w.heap.size w w'->K a->K' a w') (hh:calm P o a D K) (r:aWG) (m:aWe):o.wpIn (Dd r) m P a w K' Q':=by
 obtain ⟨v,h1,h2⟩:=hh
 have h3:=h1 w hw
 unfold Nb at h3
 have hnd:∀c,o.op≠ .defer c:=λc hc=>by
  rcases aDW (P:=P) (ρ:=a.eval) (w:=w) hc with ⟨d,w',e⟩ |⟨d,w',e⟩<;>rw [e] at h3<;>simp only [pZ] at h3
 refine ⟨λ_ _=>trivial,?_⟩
 rw [semAt_eq hnd];generalize (execOp a.eval o).run P w=r at*;cases r with
 | ok n w'=>
  cases n<;>simp only [pZ] at h3<;>simp only [Oper.uponIn]
  case value u=>
   obtain ⟨e1,e2⟩:=h3;rw [e1,e2];exact h _ _ (Below.refl _ _) h2
  case skip=>
   obtain ⟨e1,e2⟩:=h3;rw [e1,<-e2];exact h _ _ (Below.refl _ _) h2
  case enter f args=>
   obtain ⟨e1,hc⟩:=h3;rw [e1];exact ⟨λh=>Ao,VB.2<|hc.mono λe w'' ⟨he,hw''⟩=>A8⟩
 |halt x w'=>simp only [pZ] at h3
def afG {o:aWw}{a:aWD}{g:G}{K:aWD->G->Prop}{K':aWD->aWq->Prop}{Q':aW4->aWD->aWq->Prop}{w:aWq}(hw:C g w)
  (h:∀a g w',C g w'->K a g->K' a w') (hh:Tx P o a C g K) (r:aWG) (m:aWe):o.wpIn (Dd r) m P a w K' Q':=by
 have h3:=hh w hw
 have hnd:∀c,o.op≠ .defer c:=λc hc=>by
  rcases aDW (P:=P) (ρ:=a.eval) (w:=w) hc with ⟨d,w',e⟩ |⟨d,w',e⟩<;>rw [e] at h3<;>simp only [Di] at h3
 refine ⟨λ_ _=>trivial,?_⟩
 rw [semAt_eq hnd];generalize (execOp a.eval o).run P w=r at*;cases r with
 | ok n w'=>
  cases n<;>simp only [Di] at h3<;>simp only [Oper.uponIn]
  case value u=>obtain ⟨g',h1,h2⟩:=h3;exact h _ _ _ h1 h2
  case skip=>obtain ⟨g',h1,h2⟩:=h3;exact h _ _ _ h1 h2
  case enter f args=>
   exact ⟨λh=>Ao,VB.2<|h3.mono λe w'' ⟨v,he,g',h1,h2⟩=>A8⟩
  case round l f tmps assign body=>
   exact ⟨λh=>Ao,aEb<|h3.mono λe w'' ⟨v,he,g',h1,h2⟩=>A8⟩
 |halt x w'=>simp only [Di] at h3
def ae0 (hD:∀g w,C g w->D w) (hkeep:∀g w w',C g w->Below w.heap.size w w'->C g w') {i:aWe}{a:aWD}{g:G}{K:aWD->G->Prop}{K':aWD->aWq->Prop}{Q':aW4->aWD->aWq->Prop}{w:aWq}(hC:C g w)
  (h:∀a g w',C g w'->K a g->K' a w') (hh:EB P ops D C sp i K a g) (r:aWG) (m:aWe):wpOpIn (Dd r) m P ops Q' i K' a w:=by
 unfold EB at hh;unfold wpOpIn;split
 ·grind
 ·rename_i o ho
  simp only [ho] at hh;split
  ·rename_i hw
   simp only [hw,Bp] at hh
   by_cases hs:sp i=U
   ·simp only [hs,Bp] at hh;exact afG hC h hh r m
   ·simp only [hs] at hh;exact aeS (hD _ _ hC) (λa w' hb hk=>h a g w' (hkeep _ _ _ hC hb) hk) hh r m
  ·rename_i hw;simp only [hw] at hh;exact ⟨λ_ _=>trivial,h _ _ _ hC hh⟩
def oz (hD:∀g w,C g w->D w) (hkeep:∀g w w',C g w->Below w.heap.size w w'->C g w') {Q:aWD->G->Prop}{Q':aW4->aWD->aWq->Prop}(hQ:∀a g w,C g w->Q a g->Q' .normal a w) (r:aWG) (m:aWe):
  ∀(fuel:aWe) (listed:aWy) (a:aWD) (g:G) (w:aWq),C g w->KZ P md ops D C sp Q fuel listed a g->wpAnyIn (Dd r) m P md ops Q' fuel listed a w
 |0,_,_,_,_,hw,h=>⟨h.1,hQ _ _ _ hw h.2⟩
 |fuel+1,_,_,_,_,hw,h=>⟨λh0=>hQ _ _ _ hw<|h.1 h0,λi hi=>ae0 hD hkeep hw (λa' g' w' hw'=>oz hD hkeep hQ r m fuel _ a' g' w' hw') (h.2 i hi) r m⟩
def LU (P:aWt) (ops:aWm) (D:aWq->Prop) (o:aWw) (v:aWx) (a:aWD):Prop:=
 (az o (yielded ops a.tmps)=U/\∀w,D w->Nb P o a w v)\/
 (az o (yielded ops a.tmps)=X/\v=undef)
def LU.EB {i:aWe}{o:aWw}{v:aWx}{a:aWD}{g:G}(hi:ops[i]? =ah o) (hs:sp i=X) (hy:LU P ops D o v a) {K:aWD->G->Prop}(h:K (a.put o.dst v) g):EB P ops D C sp i K a g:=by
 unfold Go.Proofs.YtoifmkifedcnnaaGreatDoor.EB;simp only [hi];rcases hy with ⟨hw,hv⟩ |⟨hw,rfl⟩
 ·simp only [hw,Bp,hs,IJ,FQ];exact ⟨v,hv,h⟩
 ·grind
def LU.of_same {o:aWw}{v:aWx}{a a':aWD}(hy:LU P ops D o v a) (he:execOp a'.eval o=execOp a.eval o)
  (hw:az o (yielded ops a'.tmps)=az o (yielded ops a.tmps)):LU P ops D o v a':=by
 unfold LU Nb at*
 rwa [he,hw]
def acn {i:aWe}{o:aWw}{a:aWD}{g:G}{K:aWD->G->Prop}(hi:ops[i]? =ah o) (hs:sp i=X) (h:EB P ops D C sp i K a g):∃v,LU P ops D o v a/\K (a.put o.dst v) g:=by
 unfold EB at h;simp only [hi] at h
 by_cases hw:az o (yielded ops a.tmps)=U
 ·simp only [hw,Bp,hs,IJ,FQ] at h
  obtain ⟨v,h1,h2⟩:=h;exact ⟨v,.inl ⟨hw,h1⟩,h2⟩
 ·simp only [hw] at h
  exact ⟨undef,.inr ⟨A8,rfl⟩,h⟩
def atU {j:aWe}{oi oj:aWw}{v:aWx}(hj:ops[j]? =ah oj) (hap:oi.apart ops oj=U)
  (hsi:∀cs b,oi.op≠ .select cs b) (hsj:∀cs b,oj.op≠ .select cs b) {K:aWD->G->Prop} {a:aWD} {g:G}
  (hy:LU P ops D oi v a) (h:EB P ops D C sp j K (a.put oi.dst v) g):
  EB P ops D C sp j (λa' g'=>LU P ops D oi v a'/\K (a'.put oi.dst v) g') a g:=by
 obtain ⟨h1,h2,h3⟩:=Zp hap
 have keep:∀(a:aWD),LU P ops D oi v a->∀u,LU P ops D oi v (a.put oj.dst u):=λa hy u=>
  hy.of_same (execOp_put oi hsi a oj.dst u h3) (wanted_put oi a oj.dst u h3)
 unfold EB at*;simp only [hj] at*;rw [wanted_put oj a oi.dst v h1] at h;split
 ·rename_i hw
  simp only [hw,Bp] at h;split
  ·rename_i hs
   simp only [hs,Bp] at h;intro w hw'
   have:=h w hw'
   rw [execOp_put oj hsj a oi.dst v h1] at this;refine KM (λu w'' ⟨g',hc,hk⟩=>⟨g',hc,keep a hy u,?_⟩) this
   rw [<-Act.put_comm a v u h2];exact hk
  ·rename_i hs
   simp only [hs] at h;obtain ⟨u,hu,hn⟩:=h;refine ⟨u,λw hw'=>?_,keep a hy u,by rw [<-Act.put_comm a v u h2];exact hn⟩
   have:=hu w hw'
   unfold Nb at*
   rwa [execOp_put oj hsj a oi.dst v h1] at this
 ·rename_i hw
  simp only [hw] at h;exact ⟨keep a hy _,by rw [<-Act.put_comm a v undef h2];exact h⟩
def ad7 {Q:aWD->G->Prop}{i:aWe}{oi:aWw}{v:aWx}(hi:ops[i]? =ah oi) (hs:sp i=X) (hsel:∀(j:aWe) (o:aWw) cs b,ops[j]? =ah o->o.op≠ .select cs b):
  ∀(fuel:aWe) (listed:aWy) (a:aWD) (g:G),
   (∀j oj,ops[j]? =ah oj->j≠i->listed.getD j U=X->(∀e∈oj.after,Region.binds md e=U->e.on≠i)->oi.apart ops oj=U)->
   i∈ay md ops listed->LU P ops D oi v a->
   KZ P md ops D C sp Q fuel (listed.setIfInBounds i U) (a.put oi.dst v) g->KZ P md ops D C sp Q (fuel+1) listed a g:=by
 intro fuel
 induction fuel with
 | zero=>
  intro listed a g _ hr hy H;refine ⟨λh=>A8,λj hj=>?_⟩
  by_cases hji:j=i
  ·subst hji;exact hy.EB hi hs H
  ·have:=ready_mono hj hji
   rw [H.1] at this;cases this
 | succ fuel ih=>
  intro listed a g hfree hr hy H;refine ⟨λh=>A8,λj hj=>?_⟩
  by_cases hji:j=i
  ·subst hji;exact hy.EB hi hs H
  ·have h1:=H.2 j (ready_mono hj hji)
   obtain ⟨hjun,oj,hoj,hall⟩:=F7.1 hj
   have hnot:∀e∈oj.after,Region.binds md e=U->e.on≠i:=λe he hb heq=>by
    have h1:=hall e he hb
    have h0:=(F7.1 hr).1
    rcases QC i listed.size with h'|h'
    ·grind
    ·grind
   have h2:=atU hoj (hfree j oj hoj hji hjun hnot) (λcs b=>hsel i oi cs b hi) (λcs b=>hsel j oj cs b hoj) hy h1
   have hfree':∀k ok,ops[k]? =ah ok->k≠i->(listed.setIfInBounds j U).getD k U=X->
     (∀e∈ok.after,Region.binds md e=U->e.on≠i)->oi.apart ops ok=true:=λk ok hk hki hun hno=>by
    refine hfree k ok hk hki ?_ hno
    by_cases hjk:j=k
    ·grind
    ·simp_all
   refine aGS (λa' g' h3=>ih (listed.setIfInBounds j U) a' g' hfree' (ready_mono hr<|OX hji) h3.1 ?_) h2
   rw [Array.setIfInBounds_comm _ _ hji];exact h3.2
def I1 (P:aWt) (ops:aWm) (D:aWq->Prop) (K:aWD->Prop):aWH->aWL->aWD->Prop
 |f::fs,o::os,a=>if f then I1 P ops D K fs os a else if az o (yielded ops a.tmps) then calm P o a D (I1 P ops D K fs os) else I1 P ops D K fs os (a.put o.dst undef)
 |_,_,a=>K a
def H0 (P:aWt) (ops:aWm) (C:G->aWq->Prop) (Q:aWD->G->Prop):aWH->aWL->aWD->G->Prop
 |f::fs,o::os,a,g=>if f then (if az o (yielded ops a.tmps) then Tx P o a C g (H0 P ops C Q fs os) else H0 P ops C Q fs os (a.put o.dst undef) g) else H0 P ops C Q fs os a g
 |_,_,a,g=>Q a g
def JJ (md:aXb) (ops:aWm) (flags:aWH):aWj->aWy->Bool
 | [],listed=>(ay md ops listed).isEmpty
 |i::is,listed=>(if flags.getD i X then ay md ops listed==[i] else (ay md ops listed).contains i&&Region.free md ops listed i)&&JJ md ops flags is (listed.setIfInBounds i U)
def idxs (b:aWo):aWH->aWe->List Nat
 | [],_=>[]
 |f::fs,k=>if f=b then k::idxs b fs (k+1) else idxs b fs (k+1)
def jT (ops:aWm) (flags:aWH):aWo:=letI a:=idxs X flags 0++idxs U flags 0;Region.noSelect ops&&M flags==ops.size&&M a==ops.size&&JJ .any ops flags a (Array.replicate ops.size X)
def aDJ {flags:aWH}{Q:aWD->G->Prop}(hs:Region.noSelect ops=U):∀(is:aWj) (listed:aWy) (a:aWD) (g:G),
  JJ md ops flags is listed=U->(is.foldr (λi K=>EB P ops D C (λi=>flags.getD i X) i K) Q) a g->KZ P md ops D C (λi=>flags.getD i X) Q (M is) listed a g
 | [],_,_,_,hB,h=>⟨by simpa [JJ] using hB,h⟩
 | i::is,listed,a,g,hB,h=>by
  simp only [JJ,AY] at hB;obtain ⟨h1,h2⟩:=hB;simp only [mC] at h
  by_cases hf:flags.getD i X=U
  ·simp only [hf,Bp,D3] at h1
   refine ⟨λh0=>A8,λj hj=>?_⟩
   rw [h1] at hj;obtain rfl:=HI.1 hj;exact aGS (λa' g' hk=>aDJ hs is _ a' g' h2 hk) h
  ·rw [AE hf,AY] at h1
   obtain ⟨hr,hfr⟩:=h1
   have hr':i∈ay md ops listed:=A8
   obtain ⟨_,oi,hoi,_⟩:=F7.1 hr';obtain ⟨v,hy,hK⟩:=acn hoi A8 h;exact ad7 hoi A8 (Region.noSelect_spec hs) (M is) listed a g (Region.free_spec hoi hfr) hr' hy<|aDJ hs is _ _ _ h2 hK
def aDb {flags:aWH}{Q:aWD->G->Prop}:∀(fs:aWH) (os:aWL) (k:aWe),(∀j,fs[j]? =flags[k+j]?)->(∀j,os[j]? =ops[k+j]?)->M fs=M os->
  ∀(a:aWD) (g:G),I1 P ops D (λa=>Q a g) fs os a->((idxs X fs k).foldr (λi K=>EB P ops D C (λi=>flags.getD i X) i K) Q) a g
 | [],[],_,_,_,_,_,_,h=>h
 | f::fs,o::os,k,hf,ho,hl,a,g,h=>by
  have ho0:ops[k]? =ah o:=aPd
  have hf0:flags.getD k X=f:=aOg
  have ih:=aDb (Q:=Q) (flags:=flags) fs os (k+1) (λj=>aOk) (λj=>aOl) A8
  cases f with
  |true=>simp only [idxs,I1,Bool.true_eq_false,Bp,FQ] at h|-;exact ih a g h
  |false=>
   simp only [idxs,I1,Bp,IJ,FQ] at h|-;simp only [mC];unfold EB;simp only [ho0,hf0,IJ,FQ];split
   ·rename_i hw;simp only [hw,Bp] at h;exact pL (λa' hk=>ih a' g hk) h
   ·rename_i hw;simp only [hw] at h;exact ih _ _ h
 | [],_::_,_,_,_,hl,_,_,_=>A8
 |_::_,[],_,_,_,hl,_,_,_=>A8
def aDx {flags:aWH}{Q:aWD->G->Prop}:∀(fs:aWH) (os:aWL) (k:aWe),(∀j,fs[j]? =flags[k+j]?)->(∀j,os[j]? =ops[k+j]?)->M fs=M os->
  ∀(a:aWD) (g:G),H0 P ops C Q fs os a g->((idxs U fs k).foldr (λi K=>EB P ops D C (λi=>flags.getD i X) i K) Q) a g
 | [],[],_,_,_,_,_,_,h=>h
 | f::fs,o::os,k,hf,ho,hl,a,g,h=>by
  have ho0:ops[k]? =ah o:=aPd
  have hf0:flags.getD k X=f:=aOg
  have ih:=aDx (Q:=Q) (flags:=flags) fs os (k+1) (λj=>aOk) (λj=>aOl) A8
  cases f with
  |false=>simp only [idxs,H0,IJ,FQ] at h|-;exact ih a g h
  |true=>
   simp only [idxs,H0,Bp] at h|-;simp only [mC];unfold EB;simp only [ho0,hf0,Bp];split
   ·rename_i hw;simp only [hw,Bp] at h;exact aEj (λa' g' hk=>ih a' g' hk) h
   ·rename_i hw;simp only [hw] at h;exact ih _ _ h
 | [],_::_,_,_,_,hl,_,_,_=>A8
 |_::_,[],_,_,_,hl,_,_,_=>A8
def adz {r:aWG}{m:aWe}{Q:aW4->aWD->aWq->Prop}{a:aWD}{w:aWq}{l:aWL}(flags:aWH) (g:G)
  (hB:jT l.toArray flags=U) (hD:∀g w,C g w->D w) (hkeep:∀g w w',C g w->Below w.heap.size w w'->C g w') (hC:C g {w with drawn:=w.drawn+1})
  (h:I1 P l.toArray D (λa1=>H0 P l.toArray C (λa' g'=>∀w',C g' w'->Q .normal a' w') flags l a1 g) flags l a):wpAnyIn (Dd r) m P .any l.toArray Q l.toArray.size (Array.replicate l.toArray.size X) a {w with drawn:=w.drawn+1}:=by
 simp only [jT,AY,D3] at hB;obtain ⟨⟨⟨h1,h2⟩,h3⟩,h4⟩:=hB;refine oz (D:=D) (C:=C) (sp:=λi=>flags.getD i X) hD hkeep (Q:=λa' g'=>∀w',C g' w'->Q .normal a' w') (λ_ _ w' hw' h=>h w' hw') r m _ _ _ g _ hC ?_
 have h5:=aDJ (P:=P) (D:=D) (C:=C) (Q:=λa' g'=>∀w',C g' w'->Q .normal a' w') h1 _ _ a g h4
 rw [h3] at h5;refine h5 ?_;rw [List.foldr_append];refine aDb flags l 0 AI AI A8 a g ?_;refine (?_:∀(fs:aWH) (os:aWL) (a:aWD),I1 P l.toArray D (λa1=>H0 P l.toArray C (λa' g'=>∀w',C g' w'->Q .normal a' w') flags l a1 g) fs os a->I1 P l.toArray D (λa=>(List.foldr (λi K=>EB P l.toArray D C (λi=>flags.getD i X) i K) (λa' g'=>∀w',C g' w'->Q .normal a' w')<|idxs U flags 0) a g) fs os a) flags l a h
 intro fs
 induction fs with
 |nil=>intro os a hh;cases os<;>exact aDx flags l 0 AI AI A8 _ _ hh
 | cons f fs ih=>
  intro os a hh;cases os with
  |nil=>exact aDx flags l 0 AI AI A8 _ _ hh
  | cons o os=>
   simp only [I1] at hh|-;split
   ·grind
   ·rename_i hf
    simp only [hf,IJ,FQ] at hh;split
    ·rename_i hw;simp only [hw,Bp] at hh;exact pL (λa' hk=>ih _ _ hk) hh
    ·grind
def aoq {D:aWq->Prop}{K:aWD->Prop}{a:aWD}(h:K a):I1 P ops D K [] [] a:=by simpa [I1] using h
def aop {C:G->aWq->Prop}{Q:aWD->G->Prop}{a:aWD}{g:G}(h:Q a g):H0 P ops C Q [] [] a g:=by simpa [H0] using h
def nT (md:aXb) (ops:aWm):aWj->aWy->Bool
 | [],_=>U
 |i::is,listed=>((ay md ops listed).contains i&&Region.free md ops listed i)&&nT md ops is (listed.setIfInBounds i U)
def TS:aWj->aWy->Array Bool
 | [],l=>l
 |i::is,l=>TS is<|l.setIfInBounds i U
def ad8 {flags:aWH}{Q:aWD->G->Prop}(hs:Region.noSelect ops=U) (m:aWe):∀(is:aWj) (listed:aWy) (a:aWD) (g:G),(∀i∈is,flags.getD i X=X)->
  nT md ops is listed=U->(is.foldr (λi K=>EB P ops D C (λi=>flags.getD i X) i K) λa g=>KZ P md ops D C (λi=>flags.getD i X) Q m (TS is listed) a g) a g->KZ P md ops D C (λi=>flags.getD i X) Q (M is+m) listed a g
 | [],_,_,_,_,_,h=>by rw [Bt,Ek];exact h
 |i::is,listed,a,g,hf,hB,h=>by
  simp only [nT,AY] at hB;obtain ⟨⟨hr,hfr⟩,h2⟩:=hB;simp only [mC,TS] at h
  have hfi:=hf i AI
  have hr':i∈ay md ops listed:=A8
  obtain ⟨_,oi,hoi,_⟩:=F7.1 hr';obtain ⟨v,hy,hK⟩:=acn hoi hfi h
  have:=ad7 hoi hfi (Region.noSelect_spec hs) (M is+m) listed a g (Region.free_spec hoi hfr) hr' hy<|ad8 hs m is _ _ _ (λj hj=>hf j A8) h2 hK
  grind
def pA (b:aWo):∀(fs:aWH) (k i:aWe),i∈idxs b fs k->k<=i/\fs[i-k]? =ah b
 | [],_,_,h=>by simp [idxs] at h
 | f::fs,k,i,h=>by
  simp only [idxs] at h;split at h
  ·rename_i hf
   rcases BA.1 h with rfl|h
   ·grind
   ·exact aNr
  ·exact aNr
def Tc (ops:aWm) (flags:aWH):aWo:=
 Region.noSelect ops&&M flags==ops.size&&M (idxs X flags 0)+M (idxs U flags 0)==ops.size&&nT .any ops (idxs X flags 0) (Array.replicate ops.size X)
def adD {r:aWG}{m:aWe}{Q:aW4->aWD->aWq->Prop}{a:aWD}{w:aWq}{l:aWL}(flags:aWH) (g:G)
  (hB:Tc l.toArray flags=U) (hD:∀g w,C g w->D w) (hkeep:∀g w w',C g w->Below w.heap.size w w'->C g w') (hC:C g {w with drawn:=w.drawn+1})
  (h:I1 P l.toArray D (λa1=>KZ P .any l.toArray D C (λi=>flags.getD i X) (λa' g'=>∀w',C g' w'->Q .normal a' w') (M<|idxs U flags 0) (TS (idxs X flags 0)<|Array.replicate l.toArray.size X) a1 g) flags l a):wpAnyIn (Dd r) m P .any l.toArray Q l.toArray.size (Array.replicate l.toArray.size X) a {w with drawn:=w.drawn+1}:=by
 simp only [Tc,AY,D3] at hB;obtain ⟨⟨⟨h1,h2⟩,h3⟩,h4⟩:=hB;refine oz (D:=D) (C:=C) (sp:=λi=>flags.getD i X) hD hkeep (Q:=λa' g'=>∀w',C g' w'->Q .normal a' w') (λ_ _ w' hw' h=>h w' hw') r m _ _ _ g _ hC ?_
 have h5:=ad8 (P:=P) (D:=D) (C:=C) (flags:=flags) (Q:=λa' g'=>∀w',C g' w'->Q .normal a' w') h1 (M<|idxs U flags 0) (idxs X flags 0) _ a g (λi hi=>by
  obtain ⟨_,h⟩:=pA X flags 0 i hi;simp only [Nat.sub_zero] at h
  simp [List.getD,h]) h4
 rw [h3] at h5;refine h5 ?_;exact aDb flags l 0 AI AI A8 a g h
def UB (md:aXb) (ops:aWm):aWe->aWj->List Nat
 |0,l=>l
 |k+1,l=>l++UB md ops k (l.flatMap λi=>match ops[i]? with
  |some o=>(o.after.toList.filter<|Region.binds md).map (·.on)
  |none=>[])
def lastB (md:aXb) (ops:aWm) (o:aWw):aWo:=
 o.guard.isNone&&o.after.toList.all (λe=>an<|e.on<ops.size)&&
 (au ops.size).all (λi=>(match ops[i]? with
  |some p=>p.after.toList.all (λe=>an<|e.on<i)&&(match p.guard with|none=>U|some (j,_)=>an<|j<ops.size)
  |none=>U))&&
 (let l:=UB md ops ops.size<|(o.after.toList.filter<|Region.binds md).map (·.on);(au ops.size).all λi=>l.contains i)
def Closed (md:aXb) (ops:aWm) (listed:aWy):Prop:=
 ∀(i:aWe) (o:aWw),ops[i]? =ah o->listed.getD i X=U->∀e∈o.after,Region.binds md e=U->listed.getD e.on X=U
def Closed.back {listed:aWy}(hc:Closed md ops listed):∀(k:aWe) (l:aWj),(∀i∈l,listed.getD i X=U)->∀i∈UB md ops k l,listed.getD i X=U
 |0,_,h=>h
 | k+1,l,h=>λi hi=>by
  simp only [UB,BX] at hi;rcases hi with hi|hi
  ·exact h i hi
  ·refine Closed.back hc k _ (λj hj=>?_) i hi
   obtain ⟨i',h1,h2⟩:=List.mem_flatMap.1 hj;split at h2
   ·rename_i o ho
    obtain ⟨e,h3,rfl⟩:=F5.1 h2;obtain ⟨h4,h5⟩:=CS.1 h3;exact hc i' o ho (h i' h1) e A8 h5
   ·cases h2
def Closed.put {listed:aWy}(hc:Closed md ops listed) {i:aWe}(hi:i∈ay md ops listed):Closed md ops (listed.setIfInBounds i U):=λj o hj hl e he hb=>by
 by_cases hij:i=j
 ·subst hij
  obtain ⟨_,o',ho',h2⟩:=F7.1 hi;obtain rfl:o'=o:=EF<|ho'.symm.trans hj;exact getD_set_true<|h2 e he hb
 ·rw [aB X hij] at hl
  exact getD_set_true<|hc j o hj hl e he hb
def Vn {l:aWy}{i:aWe}(d b:aWo) (h:i<l.size):(l.push b).getD i d=l.getD i d:=by
 simp [lU,VC h]
def aFT {l:aWy}(b d:aWo):(l.push b).getD l.size d=b:=AI
def set_push {l:aWy}{i:aWe}(b:aWo) (h:i<l.size):(l.push b).setIfInBounds i U=(l.setIfInBounds i U).push b:=by
 apply Array.ext_getElem?
 intro j
 by_cases hij:i=j
 ·subst hij
  grind
 ·grind
def fQ {l:aWy}{i:aWe}(h:i<l.size):l.getD i U=l.getD i false:=nD
def afA {o:aWw}(hl:lastB md ops o=U) {listed:aWy}(hs:listed.size=ops.size) (hr:ay md ops listed=[]):∀i,i<ops.size->listed.getD i X=true:=by
 intro i
 induction i using Nat.strongRecOn with
 | _ i ih=>
  intro hi
  by_cases hL:listed.getD i X=U
  ·exact hL
  exfalso;simp only [lastB,AY,BO,Iq] at hl
  have:i∈ay md ops listed:=F7.2 ⟨A8,_,Q8 hi,λe he hb=>by
   have h3:e.on<i:=A8
   exact ih e.on h3 A0⟩
  rw [hr] at this;cases this
def Xl (F:Fence) (m:aWe) (P:aWt) (ops:aWm) (Q:aW4->aWD->aWq->Prop) (n:aWe):aW4->aWD->aWq->Prop
 | .normal,a,w=>wpOpIn F m P ops Q n (Q .normal) a w
 |e,a,w=>Q e a w
def aeV {F:Fence}{m n:aWe}{ops:aWm}{Q:aW4->aWD->aWq->Prop}{o:aWw}{a:aWD}{K:aWD->aWq->Prop}{r:aXf}(h:o.uponIn F m P a K (Xl F m P ops Q n) r):o.uponIn F m P a K Q r:=by
 cases r with
 |ok x w'=>cases x<;>exact h
 |halt x w'=>cases x<;>exact h
def ado {o:aWw}{tmps:aWz}{j:aWe}(h:j<ops.size):yielded (ops.push o) tmps j=yielded ops tmps j:=by
 simp [yielded,lU,VC h]
def asT {F:Fence}{m:aWe}{Q:aW4->aWD->aWq->Prop}{o:aWw}(hl:lastB md ops o=U) {i:aWe}(hi:i<ops.size) {K:aWD->aWq->Prop}{a:aWD}{w:aWq}{n:aWe}
  (h:wpOpIn F m P ops (Xl F m P (ops.push o) Q n) i K a w):wpOpIn F m P (ops.push o) Q i K a w:=by
 unfold wpOpIn at*;simp only [lU,VC hi,FQ,Q8 hi] at h|-;simp only [lastB,AY,BO,Iq] at hl
 have h1:=hl.1.2 i hi
 simp only [Q8 hi,AY] at h1
 have hw:az ops[i] (yielded (ops.push o) a.tmps)=az ops[i] (yielded ops a.tmps):=by
  unfold az
  have h2:=h1.2
  split
  ·rfl
  ·rename_i j want hg
   simp only [hg,Aa] at h2;rw [ado h2]
 rw [hw];split
 ·rename_i hw'
  rw [AD hw'] at h;exact ⟨h.1,aeV h.2⟩
 ·rename_i hw'
  rw [AE hw'] at h;exact h
def aDY {o:aWw}(hl:lastB md ops o=U) {listed:aWy}(hs:listed.size=ops.size) {b:aWo}{i:aWe}(hi:i<ops.size) (h:i∈ay md (ops.push o) (listed.push b)):i∈ay md ops listed:=by
 obtain ⟨h1,o',ho',h2⟩:=F7.1 h;rw [Vn _ _<|hs▸hi] at h1;simp only [lU,VC hi,FQ,Q8 hi] at ho';obtain rfl:=EF ho';refine F7.2 ⟨h1,_,Q8 hi,λe he hb=>?_⟩
 simp only [lastB,AY,BO,Iq] at hl
 have h4:e.on<i:=A8
 have h5:=h2 e he hb
 rwa [Vn _ _ A0] at h5
def QZ {listed:aWy}{i:aWe}(h:i∈ay md ops listed):i<ops.size:=by
 obtain ⟨_,o,ho,_⟩:=F7.1 h
 grind
def aeP {o:aWw}(hl:lastB md ops o=U) {listed:aWy}(hs:listed.size=ops.size) (hr:ay md ops listed=[]):ay md (ops.push o) (listed.push U)=[]:=by
 refine xL.2 λi hi=>?_
 have h1:=QZ hi
 rw [xO] at h1;rcases QC i ops.size with h2|h2
 ·have:=aDY hl hs h2 hi
  rw [hr] at this;cases this
 ·obtain rfl:i=ops.size:=A0
  have h3:=(F7.1 hi).1
  rw [<-hs,aFT] at h3;cases h3
def aep {o:aWw}(hl:lastB md ops o=U) {listed:aWy}(hs:listed.size=ops.size) (ha:∀i,i<ops.size->listed.getD i X=U):ops.size∈ay md (ops.push o) (listed.push X):=by
 refine F7.2 ⟨by rw [<-hs,aFT],o,AI,λe he _=>?_⟩
 simp only [lastB,AY,BO] at hl
 have h1:e.on<ops.size:=A8
 rw [Vn _ _ A0]
 grind
def apS {o:aWw}(hl:lastB md ops o=U) {listed:aWy}(hs:listed.size=ops.size) (hc:Closed md ops listed) (h:ops.size∈ay md (ops.push o) (listed.push X)):ay md ops listed=[]:=by
 obtain ⟨_,o',ho',h2⟩:=F7.1 h;simp only [lastB,AY,BO] at hl
 have h0:∀i∈UB md ops ops.size ((o.after.toList.filter<|Region.binds md).map (·.on)),listed.getD i X=true:=hc.back _ _ λi hi=>by
  obtain ⟨e,h3,rfl⟩:=F5.1 hi;obtain ⟨h4,h5⟩:=CS.1 h3
  have h6:e.on<ops.size:=A8
  have h7:=h2 e A8 h5
  rwa [Vn _ _ A0] at h7
 refine xL.2 λi hi=>?_
 have h1:=QZ hi
 have h3:=hl.2 i A8
 have h4:=h0 i A8
 have h5:=(F7.1 hi).1
 rw [fQ A0,h4] at h5;cases h5
def aeU {F:Fence}{m:aWe}{Q:aW4->aWD->aWq->Prop}{o:aWw}(hl:lastB md ops o=U):∀(fuel:aWe) (listed:aWy) (a:aWD) (w:aWq),listed.size=ops.size->Closed md ops listed->
  wpAnyIn F m P md ops (Xl F m P (ops.push o) Q ops.size) fuel listed a w->wpAnyIn F m P md (ops.push o) Q (fuel+1) (listed.push X) a w:=by
 have hend:∀(fuel:aWe) (listed:aWy) (a:aWD) (w:aWq),listed.size=ops.size->ay md ops listed=[]->wpOpIn F m P (ops.push o) Q ops.size (Q .normal) a w->
   wpOpIn F m P (ops.push o) Q ops.size (wpAnyIn F m P md (ops.push o) Q fuel<|(listed.push X).setIfInBounds ops.size U) a w:=λfuel listed a w hs hr h=>by
  have he:(listed.push X).setIfInBounds ops.size U=listed.push true:=by
   apply Array.ext_getElem?
   intro j
   by_cases hij:listed.size=j
   ·grind
   ·grind
  rw [he];refine wpOpIn_mono (λa w h=>?_) h
  have h0:=aeP hl hs hr
  cases fuel with
  |zero=>exact ⟨h0,h⟩
  |succ fuel=>exact ⟨λ_=>h,λi hi=>A8⟩
 have hdead:∀(listed:aWy),listed.size=ops.size->Closed md ops listed->ay md (ops.push o) (listed.push X)≠ []:=λlisted hs _ h=>by
  by_cases hr:ay md ops listed=[]
  ·have:=aep hl hs (afA hl hs hr)
   rw [h] at this;cases this
  ·obtain ⟨i,hi⟩:=List.exists_mem_of_ne_nil _ hr
   have hlt:=QZ hi
   obtain ⟨h1,o',ho',h2⟩:=F7.1 hi
   have:i∈ay md (ops.push o) (listed.push X):=F7.2 ⟨by rw [Vn _ _ A0];exact h1,o',A8,λe he hb=>by
    have h3:=h2 e he hb
    rw [Vn]
    ·exact h3
    ·rcases QC e.on listed.size with h'|h'
     ·exact h'
     ·simp [xI h'] at h3⟩
   rw [h] at this;cases this
 intro fuel
 induction fuel with
 | zero=>
  intro listed a w hs hc h;refine ⟨λh0=>absurd h0<|hdead listed hs hc,λi hi=>?_⟩
  have h1:=QZ hi
  rw [xO] at h1;rcases QC i ops.size with h2|h2
  ·have:=aDY hl hs h2 hi
   rw [h.1] at this;cases this
  ·obtain rfl:i=ops.size:=A0
   exact hend 0 listed a w hs h.1 h.2
 | succ fuel ih=>
  intro listed a w hs hc h;refine ⟨λh0=>absurd h0<|hdead listed hs hc,λi hi=>?_⟩
  have h1:=QZ hi
  rw [xO] at h1;rcases QC i ops.size with h2|h2
  ·have hr:=aDY hl hs h2 hi
   refine asT hl h2<|wpOpIn_mono (λa w hk=>?_)<|h.2 i hr
   rw [set_push _ A0];exact ih _ a w A8 (hc.put hr) hk
  ·obtain rfl:i=ops.size:=A0
   have hr:=apS hl hs hc hi
   exact hend (fuel+1) listed a w hs hr<|h.1 hr
def adY {F:Fence}{m id:aWe}{Q:aW4->aWD->aWq->Prop}{o:aWw}{a:aWD}{w:aWq}(hm:P.follows .mixedOrders=U) (hl:lastB .any ops o=U)
  (h:wpAnyIn F m P .any ops (Xl F m P (ops.push o) Q ops.size) ops.size (Array.replicate ops.size X) a {w with drawn:=w.drawn+1}):(Code.region id (ops.push o) U).wpIn F m P Q a w:=by
 refine wpIn_region_any hm ?_
 have h1:=aeU hl ops.size (Array.replicate ops.size X) a _ AI (λi o' ho' hL=>by
  have:=(Hk.1 ho').1
  simp [this] at hL) h
 grind
end
structure DX (tr:aWj) (w w':aWq):Prop where
 os:w'.os=w.os
 tape:w'.tape=w.tape
 output:w'.output=w.output
 size:w.heap.size<=w'.heap.size
 block:∀k,k<w.heap.size->k∉tr->w'.heap[k]? =w.heap[k]?
def aeb {tr:aWj}{w w1 w2:aWq}(h:DX tr w w1) (hb:Below w1.heap.size w1 w2):DX tr w w2:=
 ⟨hb.os.trans h.os,hb.tape.trans h.tape,hb.output.trans h.output,HJ h.size hb.size,λk hk hn=>(hb.block k<|Zt hk h.size).trans<|h.block k hk hn⟩
def DX.refl (tr:aWj) (w:aWq):DX tr w w:=⟨rfl,rfl,rfl,At _,λ_ _ _=>rfl⟩
end Go.Proofs.YtoifmkifedcnnaaGreatDoor
namespace Go.Sx
open Go.Proofs.YtoifmkifedcnnaaGreatDoor
open Go Go.RowKit
inductive Ty where
 |int (k:IntKind)
 |bool
 |str
 |sl (e:Ty)
 |pair (a b:Ty)
abbrev A7:Ty:=.int .i64
abbrev Ty.D:Ty->Type
 | .int _=>Int
 | .bool=>Bool
 | .str=>ByteArray
 | .sl e=>List e.D
 | .pair a b=>a.D×b.D
def Ty.n:Ty->Nat
 | .pair a b=>a.n+b.n
 |_=>1
def Ty.dflt:(t:Ty)->t.D
 | .int _=>(0:Y)
 | .bool=>X
 | .str=>ByteArray.empty
 | .sl _=>[]
 | .pair a b=>(a.dflt,b.dflt)
abbrev gx {e:Ty}(l:List e.D) (n:Y):e.D:=l.getD n.toNat e.dflt
def RD (Z:aWe->Prop) (w:aWq):(t:Ty)->t.D->aWe->aWe->Prop
 | .int k,n,b,o=>w.cell? ⟨b,o,aj⟩=ah (ag k n)
 | .bool,x,b,o=>w.cell? ⟨b,o,aj⟩=ah (.bool x)
 | .str,s,b,o=>w.cell? ⟨b,o,aj⟩=ah (.string s)
 | .sl e,l,b,o=>∃a cap,w.cell? ⟨b,o,aj⟩=ah (.slice a (M l) cap)/\M l<=cap/\(0<M l->∃b' o',a=ah ⟨b',o',aj⟩/\Z b'/\∀(i:aWe) (d:e.D),l[i]? =ah d->RD Z w e d b' (o'+i*e.n))
 | .pair x y,d,b,o=>RD Z w x d.1 b o/\RD Z w y d.2 b (o+x.n)
def QN {w w':aWq}{b o:aWe}(h:w'.heap[b]? =w.heap[b]?):w'.cell? ⟨b,o,aj⟩=w.cell? ⟨b,o,aj⟩:=World.cell?_of_block (w:=w) (w':=w') h
def RD.keep {Z Z':aWe->Prop}{w w':aWq}(hZ:∀b,Z b->Z' b) (hw:∀b,Z b->w'.heap[b]? =w.heap[b]?):
  ∀(t:Ty) (d:t.D) (b o:aWe),w'.heap[b]? =w.heap[b]? ->RD Z w t d b o->RD Z' w' t d b o
 | .int _,_,b,o,hb,h=>yR
 | .bool,_,b,o,hb,h=>yR
 | .str,_,b,o,hb,h=>yR
 | .sl e,l,b,o,hb,h=>by
  obtain ⟨a,cap,h1,h2,h3⟩:=h;refine ⟨a,cap,by rw [QN hb];exact h1,h2,λhn=>?_⟩
  obtain ⟨b',o',h4,h5,h6⟩:=h3 hn;exact ⟨b',o',h4,hZ _ h5,λi d hd=>RD.keep hZ hw e d b' _ (hw b' h5)<|h6 i d hd⟩
 | .pair x y,d,b,o,hb,h=>by
  exact ⟨RD.keep hZ hw x d.1 b o hb h.1,RD.keep hZ hw y d.2 b _ hb h.2⟩
def RD.mono {Z Z':aWe->Prop}{w w':aWq}(hZ:∀b,Z b->Z' b) (hw:∀b,Z b->w'.heap[b]? =w.heap[b]?) (t:Ty) (d:t.D) (b o:aWe) (hz:Z b) (h:RD Z w t d b o):RD Z' w' t d b o:=RD.keep hZ hw t d b o (hw b hz) h
structure Loc where
 (b o:aWe)
 cap:aWG
def aWU:qT (Loc):=⟨⟩
instance:Inhabited Loc:=⟨⟨0,0,aj⟩⟩
inductive LV where
 |v (x:Value)
 |bl (b:Bool)
 |ki (k:IntKind) (n:Int)
 |own (k off:Nat)
 |agg (l:List LV)
 |AO (l:List LV)
 |fn (f:FuncId) (cap:List LV)
 |fb (f:FuncId) (fs:List LV)
 |xq (n:Nat) (f:Nat->LV)
 |xl (e:Ty) (l:List e.D)
 |os (k es off n:Nat)
 |op (k es i j:Nat)
 |om (k:Nat)
 |mp (kd:IntKind) (ks:List Int) (vs:List LV)
 |oc (k es off n c:Nat)
 |CO (k:Nat)
 |junk
def aWf:qT (List LV):=⟨⟩
def aWI:qT (List<|Nat×LV):=⟨⟩
def aXe:qT (Option LV):=⟨⟩
def aXj:qT (List<|List LV):=⟨⟩
mutual
def R (β:aWe->aWU) (Z:aWe->Prop) (w:aWq):LV->aWx->Prop
 | .v x,y=>y=x
 | .bl b,y=>y=.bool b
 | .ki k n,y=>y=ag k n
 | .own k off,y=>y=.pointer (ah ⟨(β k).b,off,aj⟩)
 | .agg l,y=>∃ys,y=.agg ys/\RL β Z w l ys.toList
 | .AO l,y=>∃ys,y=.tuple ys/\RL β Z w l ys.toList
 | .fn f cap,y=>∃ys,y=.func (.func f) #[] ys/\RL β Z w cap ys.toList
 | .fb f cap,y=>∃ys,y=.func (.func f) ys #[]/\RL β Z w cap ys.toList
 | .xq n f,y=>∃b off,y=.pointer (ah ⟨b,off,aj⟩)/\Z b/\∀j,j<n->∃z,w.cell? ⟨b,off+j,aj⟩=ah z/\R β Z w (f j) z
 | .xl e l,y=>∃a cap,y=.slice a (M l) cap/\M l<=cap/\(0<M l->∃b off,a=ah ⟨b,off,aj⟩/\Z b/\∀(i:aWe) (d:e.D),l[i]? =ah d->RD Z w e d b (off+i*e.n))
 | .os k es off n,y=>match (β k).cap with
  |none=>n=0/\off=0/\y=.slice aj 0 0
  |some c=>off+n<=c/\∃a,y=.slice (ah a) n (c-off)/\(0<c-off->a=⟨(β k).b,(β k).o+off*es,aj⟩)
 | .op k es i j,y=>(β k).cap≠aj/\y=.pointer (ah ⟨(β k).b,(β k).o+i*es+j,aj⟩)
 | .om k,y=>y=.map (ah (β k).b)
 | .mp kd ks vs,y=>∃r es clock,y=.map (ah r)/\Z r/\w.heap[r]? =ah (.map es clock)/\es.toList.map (·.key)=ks.map (.int kd)/\RL β Z w vs (es.toList.map (·.val))
 | .oc k es off n c,y=>off+n<=c/\∃a,y=.slice (ah a) n (c-off)/\(0<c-off->a=⟨(β k).b,off*es,aj⟩)
 | .CO k,y=>y=.func (.yield (β k).b) #[] #[]
 | .junk,_=>True
def RL (β:aWe->aWU) (Z:aWe->Prop) (w:aWq):aWf->aWv->Prop
 | [],ys=>ys=[]
 |x::xs,ys=>∃y zs,ys=y::zs/\R β Z w x y/\RL β Z w xs zs
end
/-Which own blocks a value names:all below n. -/
mutual
def okV (n:aWe):LV->Prop
 | .v _=>True
 | .bl _=>True
 | .ki _ _=>True
 | .own k _=>k<n
 | .agg l=>AT n l
 | .AO l=>AT n l
 | .fn _ cap=>AT n cap
 | .fb _ cap=>AT n cap
 | .xq _ f=>∀j,okV 0 (f j)
 | .xl _ _=>True
 | .os k _ _ _=>k<n
 | .op k _ _ _=>k<n
 | .om k=>k<n
 | .mp _ _ vs=>AT n vs
 | .oc k _ _ _ _=>k<n
 | .CO k=>k<n
 | .junk=>True
def AT (n:aWe):aWf->Prop
 | []=>True
 |x::xs=>okV n x/\AT n xs
end
mutual
def okV.mono {n m:aWe}(h:n<=m):∀(x:LV),okV n x->okV m x
 | .v _,_=>trivial
 | .bl _,_=>trivial
 | .ki _ _,_=>trivial
 | .own k _,hk=>VN
 | .agg l,hk=>mY
 | .AO l,hk=>mY
 | .fn _ l,hk=>mY
 | .fb _ l,hk=>mY
 | .xq _ f,hk=>by simp only [okV] at*;exact hk
 | .xl _ _,_=>trivial
 | .os k _ _ _,hk=>VN
 | .op k _ _ _,hk=>VN
 | .om k,hk=>VN
 | .mp _ _ vs,hk=>by simp only [okV] at*;exact AT.mono h vs hk
 | .oc k _ _ _ _,hk=>VN
 | .CO k,hk=>VN
 | .junk,_=>trivial
def AT.mono {n m:aWe}(h:n<=m):∀(x:aWf),AT n x->AT m x
 | [],_=>trivial
 |x::xs,hk=>by simp only [AT] at*;exact ⟨okV.mono h x hk.1,AT.mono h xs hk.2⟩
end
mutual
def R.mono {β β':aWe->aWU}{Z Z':aWe->Prop}{w w':aWq}{n:aWe}(hβ:∀k,k<n->β' k=β k) (hZ:∀b,Z b->Z' b) (hw:∀b,Z b->w'.heap[b]? =w.heap[b]?):
  ∀(x:LV) (y:aWx),okV n x->R β Z w x y->R β' Z' w' x y
 | .v _,_,_,h=>h
 | .bl _,_,_,h=>h
 | .ki _ _,_,_,h=>h
 | .own k off,y,hk,h=>by simp only [R,okV] at*;rw [h,hβ k hk]
 | .agg l,y,hk,h=>by
  exact mI
 | .AO l,y,hk,h=>by
  exact mI
 | .fn f l,y,hk,h=>by
  exact mI
 | .fb f l,y,hk,h=>by
  exact mI
 | .xq n f,y,hk,h=>by
  simp only [R,okV] at*;obtain ⟨b,off,h1,hz,h2⟩:=h;refine ⟨b,off,h1,hZ b hz,λj hj=>?_⟩
  obtain ⟨z,h3,h4⟩:=h2 j hj;exact ⟨z,by rw [QN (hw b hz)];exact h3,R.mono hβ hZ hw (f j) z (okV.mono (NA _) _ (hk j)) h4⟩
 | .xl e l,y,hk,h=>by
  simp only [R] at*;obtain ⟨a,cap,h1,h2,h3⟩:=h;refine ⟨a,cap,h1,h2,λhn=>?_⟩
  obtain ⟨b,off,h4,h5,h6⟩:=h3 hn;exact ⟨b,off,h4,hZ b h5,λi d hd=>RD.mono hZ hw e d b _ h5 (h6 i d hd)⟩
 | .os k es off n,y,hk,h=>aQ
 | .op k es i j,y,hk,h=>aQ
 | .om k,y,hk,h=>aQ
 | .mp kd ks vs,y,hk,h=>by
  simp only [R,okV] at*;obtain ⟨r,es,clock,h1,h2,h3,h4,h5⟩:=h;exact ⟨r,es,clock,h1,hZ r h2,by rw [hw r h2];exact h3,h4,RL.mono hβ hZ hw vs _ hk h5⟩
 | .oc k es off n c,y,hk,h=>aQ
 | .CO k,y,hk,h=>aQ
 | .junk,_,_,_=>Ji
def RL.mono {β β':aWe->aWU}{Z Z':aWe->Prop}{w w':aWq}{n:aWe}(hβ:∀k,k<n->β' k=β k) (hZ:∀b,Z b->Z' b) (hw:∀b,Z b->w'.heap[b]? =w.heap[b]?):
  ∀(x:aWf) (y:aWv),AT n x->RL β Z w x y->RL β' Z' w' x y
 | [],_,_,h=>aPe
 |x::xs,ys,hk,h=>by
  simp only [RL,AT] at*;obtain ⟨y,zs,h1,h2,h3⟩:=h;exact ⟨y,zs,h1,R.mono hβ hZ hw x y hk.1 h2,RL.mono hβ hZ hw xs zs hk.2 h3⟩
end
def Bq:(t:Ty)->t.D->List LV
 | .int k,n=>[.v<|ag k n]
 | .bool,b=>[.v<|.bool b]
 | .str,s=>[.v<|.string s]
 | .sl e,l=>[.xl e l]
 | .pair a b,d=>Bq a d.1++Bq b d.2
def KJ:∀(t:Ty) (d:t.D),M (Bq t d)=t.n
 | .int _,_=>rfl
 | .bool,_=>rfl
 | .str,_=>rfl
 | .sl _,_=>rfl
 | .pair a b,d=>by simp only [Bq,BL,Ty.n,KJ a d.1,KJ b d.2]
def NV (n:aWe):∀(t:Ty) (d:t.D),AT n (Bq t d)
 | .int _,_=>⟨ak,ak⟩
 | .bool,_=>⟨ak,ak⟩
 | .str,_=>⟨ak,ak⟩
 | .sl _,_=>⟨ak,ak⟩
 | .pair a b,d=>by
  have app:∀(l1 l2:aWf),AT n l1->AT n l2->AT n (l1++l2):=by
   intro l1
   induction l1 with
   |nil=>intro l2 _ h;exact h
   |cons x xs ih=>intro l2 h1 h2;exact ⟨h1.1,ih l2 h1.2 h2⟩
  simp only [Bq];exact app _ _ (NV n a d.1)<|NV n b d.2
def X3 {β:aWe->aWU}{Z:aWe->Prop}{w:aWq}:∀(t:Ty) (d:t.D) (b o:aWe),RD Z w t d b o->∀(j:aWe) (x:LV),(Bq t d)[j]? =ah x->∃z,w.cell? ⟨b,o+j,aj⟩=ah z/\R β Z w x z
 | .int k,n,b,o,h,j,x,hx=>by
  exact xi
 | .bool,n,b,o,h,j,x,hx=>by
  exact xi
 | .str,n,b,o,h,j,x,hx=>by
  exact xi
 | .sl e,l,b,o,h,j,x,hx=>by
  simp only [Bq] at hx;cases j with
  |zero=>
   simp at hx;subst hx
   simp only [RD] at h;obtain ⟨a,cap,h1,h2,h3⟩:=h;exact ⟨_,h1,by simp only [R];exact ⟨a,cap,rfl,h2,h3⟩⟩
  |succ j=>simp at hx
 | .pair p q,d,b,o,h,j,x,hx=>by
  simp only [Bq] at hx;simp only [RD] at h
  by_cases hj:j<p.n
  ·rw [Hj (by rw [KJ];exact hj)] at hx
   exact X3 p d.1 b o h.1 j x hx
  ·rw [GY yi,KJ] at hx
   obtain ⟨z,h1,h2⟩:=X3 q d.2 b (o+p.n) h.2 (j-p.n) x hx;exact ⟨z,by rw [show o+j=o+p.n+(j-p.n) by omega];exact h1,h2⟩
def RL.length {β:aWe->aWU}{Z:aWe->Prop}{w:aWq}:∀ {l:aWf}{ys:aWv},RL β Z w l ys->M ys=M l
 | [],ys,h=>by simp only [RL] at h;simp [h]
 |x::xs,ys,h=>by
  simp only [RL] at h;obtain ⟨y,zs,rfl,_,h3⟩:=h
  simp [RL.length h3]
def RL.get {β:aWe->aWU}{Z:aWe->Prop}{w:aWq}:∀ {l:aWf}{ys:aWv}(i:aWe) (x:LV),RL β Z w l ys->l[i]? =ah x->∃y,ys[i]? =ah y/\R β Z w x y
 | [],ys,i,x,_,hx=>by simp at hx
 |x0::xs,ys,i,x,h,hx=>by
  simp only [RL] at h;obtain ⟨y,zs,rfl,h2,h3⟩:=h;cases i with
  |zero=>simp at hx;subst hx;exact ⟨y,AI,h2⟩
  |succ i=>simp at hx;obtain ⟨y',h4,h5⟩:=RL.get i x h3 hx;exact ⟨y',by simpa using h4,h5⟩
def AT.get {n:aWe}:∀ {l:aWf}(i:aWe) (x:LV),AT n l->l[i]? =ah x->okV n x
 | [],i,x,_,hx=>by simp at hx
 |x0::xs,i,x,h,hx=>by
  simp only [AT] at h;cases i with
  |zero=>simp at hx;subst hx;exact h.1
  |succ i=>simp at hx;exact AT.get i x h.2 hx
def RL.CU {β:aWe->aWU}{Z:aWe->Prop}{w:aWq}:∀ {l:aWf}{ys:aWv},M ys=M l->(∀(i:aWe) (x:LV),l[i]? =ah x->∃y,ys[i]? =ah y/\R β Z w x y)->RL β Z w l ys
 | [],ys,hl,_=>by simp only [RL];exact M8.1 hl
 |x::xs,[],hl,_=>bE
 |x::xs,y::ys,hl,h=>by
  simp only [RL];refine ⟨y,ys,rfl,?_,RL.CU my λi x' hx=>?_⟩
  ·obtain ⟨y',h1,h2⟩:=h 0 x AI;simp at h1;subst h1;exact h2
  ·obtain ⟨y',h1,h2⟩:=h (i+1) x' ym;exact ⟨y',by simpa using h1,h2⟩
def AT.CU {n:aWe}:∀ {l:aWf},(∀(i:aWe) (x:LV),l[i]? =ah x->okV n x)->AT n l
 | [],_=>trivial
 |x::xs,h=>by simp only [AT];exact ⟨h 0 x AI,AT.CU λi x' hx=>h (i+1) x' ym⟩
inductive T (α:Type) where
 |ok (x:α)
 |br (b:Bool) (t e:T α)
 |req (p:Prop) (t:T α)
 |no
def T.rv {β:Type}(x:LV) (t:T β):T β:=.req (x=x) t
def T.rl {α β:Type}(l:List α) (t:T β):T β:=.req (0=0/\M l=M l) t
def T.bind {α β:Type}(k:α->T β):T α->T β
 | .ok x=>k x
 | .br b t e=> .br b (t.bind k) (e.bind k)
 | .req p t=> .req p (t.bind k)
 | .no=> .no
def T.all {α:Type}(K:α->Prop):T α->Prop
 | .ok x=>K x
 | .br b t e=>(b=U->t.all K)/\(b=X->e.all K)
 | .req p t=>p/\t.all K
 | .no=>False
def T.all_bind {α β:Type}{k:α->T β}{K:β->Prop}:∀ {t:T α},(t.bind k).all K↔t.all (λx=>(k x).all K)
 | .ok _=>Iff.rfl
 | .br b t e=>by simp only [T.bind,T.all];rw [T.all_bind,T.all_bind]
 | .req p t=>by simp only [T.bind,T.all];rw [T.all_bind]
 | .no=>Iff.rfl
def T.BY {α:Type}{K K':α->Prop}(h:∀x,K x->K' x):∀ {t:T α},t.all K->t.all K'
 | .ok _,hh=>h _ hh
 | .br b t e,hh=>⟨λhb=>T.BY h<|hh.1 hb,λhb=>T.BY h<|hh.2 hb⟩
 | .req p t,hh=>⟨hh.1,T.BY h hh.2⟩
 | .no,hh=>hh
def J5 {α:Type}(P:aWt):Sem α->Option α
 | .pure a=>ah a
 | .program k=>J5 P (k P)
 | .mark _ k=>J5 P k
 |_=>aj
def cU {α:Type}{P:aWt}(w:aWq):∀ {s:Sem α}{a:α},J5 P s=ah a->s.run P w=.ok a w
 | .pure _,_,h=>by simp only [J5,Ai] at h;subst h;rfl
 | .program k,_,h=>by simp only [J5] at h;exact cU w (s:=k P) h
 | .mark _ k,_,h=>by simp only [J5] at h;exact cU w (s:=k) h
 | .load ..,_,h| .store ..,_,h| .new ..,_,h| .shape ..,_,h| .freeze ..,_,h| .frozen ..,_,h| .getObj ..,_,h| .setObj ..,_,h| .choose ..,_,h| .sys ..,_,h| .halt ..,_,h=>by simp [J5] at h
inductive Ex where
 |normal
 |exit (n:Nat)
 |ret
def aXl:qT (List Ex):=⟨⟩
inductive LS where
 |ready
 |busy
 |done (x:Ex)
inductive BK where
 |cl
 |vec (e:Ty) (l:List e.D)
 |mp (kd:IntKind) (ks:List Int) (vs:List LV)
 |Cl (ps:Array Tmp) (asg body:Code) (st:LS)
 |st (e:Ty) (l:List e.D)
 |dead
structure AB where
 c:aWf
 t:aWu
 k:BK
 p:aWo
def aWi:qT (List AB):=⟨⟩
def aW6:qT (Option AB):=⟨⟩
def AB.E4 (b:AB):aWo:=
 match b.k with
 | .cl=>U
 |_=>X
abbrev B5:=Nat->Option (Nat×(Nat->aWx))
abbrev Specs:=FuncId->Option (List LV->T LV)
def aWR:qT (Specs):=⟨⟩
def pl:LV->Option Value
 | .v x=>ah x
 | .bl b=>ah (.bool b)
 | .ki k n=>ah (ag k n)
 | .fn f []=>ah (.func (.func f) #[] #[])
 |_=>aj
def B2:aWf->Option (List Value)
 | []=>ah []
 |x::xs=>match pl x,B2 xs with
  |some y,ah ys=>ah (y::ys)
  |_,_=>aj
def norm:LV->LV
 | .bl b=> .v (.bool b)
 | .ki k n=> .v (ag k n)
 |x=>x
def Ju (l:aWf):LV:=match B2 l with|some ys=> .v (.agg ys.toArray) |none=> .agg<|l.map norm
def R2 (l:aWf):LV:=match B2 l with|some ys=> .v (.tuple ys.toArray) |none=> .AO<|l.map norm
def K2:aWx->Bool
 | .agg _=>X
 | .tuple _=>X
 |_=>U
def Wp:LV->Bool
 | .v x=>K2 x
 | .agg _=>X
 | .AO _=>X
 | .junk=>X
 |_=>U
def CN:LV->Option (List LV)
 | .v x=>if x.cells.toList.all K2 then ah (x.cells.toList.map .v) else aj
 | .agg l=>if l.all Wp then ah l else aj
 | .AO _=>aj
 | .junk=>aj
 |x=>ah [x]
def HN (P:aWt) (t:aWu):aWG:=(P.info? t).map (·.size)
def IV (P:aWt) (t:aWu):aWZ:=(P.info? t).bind (·.zero)
def SE (P:aWt) (t:aWu):Option Bool:=(P.underlying t).map fun| .struct _=>U| .array _ _=>U|_=>X
def AL (G:B5) (F:aWf):aWS->LV
 | .tmp t=>F.getD t .junk
 | .const x=>match x with| .bool b=> .bl b| ag k n=> .ki k n|y=> .v y
 | .global g=>match G g with|some (n,f)=> .xq n (λj=> .v<|f j) |none=> .junk
 | .func f=> .fn f []
def setAt (l:aWf) (off:aWe) (cs:aWf):aWf:=l.take off++cs++l.drop (off+M cs)
def wN (k:aWW):LV->Option Int
 | .v (.int k' n)=>if k'=k then ah n else aj
 | .ki k' n=>if k'=k then ah n else aj
 |_=>aj
def wO:LV->Option Bool
 | .v (.bool b)=>ah b
 | .bl b=>ah b
 |_=>aj
def wM:LV->Option ByteArray
 | .v (.string s)=>ah s
 |_=>aj
def Jw:(a b:Ty)->Option (PLift<|a=b)
 | .int k,.int k'=>if h:k=k' then ah ⟨Vf⟩ else aj
 | .bool,.bool=>ah ⟨rfl⟩
 | .str,.str=>ah ⟨rfl⟩
 | .sl x,.sl y=>match Jw x y with
  |some ⟨h⟩=>ah ⟨Vf⟩
  |none=>aj
 | .pair x y,.pair x' y'=>match Jw x x',Jw y y' with
  |some ⟨h⟩,ah ⟨h'⟩=>ah ⟨by rw [h,h']⟩
  |_,_=>aj
 |_,_=>aj
def Kl {a b:Ty}(h:a=b) (l:List a.D):List b.D:=h▸l
def N2 (e:Ty):LV->Option (List e.D)
 | .xl e' l=>match Jw e' e with
  |some ⟨h⟩=>ah (Kl h l)
  |none=>aj
 | .v (.slice aj 0 0)=>ah []
 |_=>aj
def hd1 {α:Type}(f:LV->Option α):aWf->Option α
 | [x]=>f x
 |_=>aj
def Jz:(t:Ty)->aWf->Option t.D
 | .int k,l=>hd1 (wN k) l
 | .bool,l=>hd1 wO l
 | .str,l=>hd1 wM l
 | .sl e,l=>hd1 (N2 e) l
 | .pair a b,l=>match Jz a (l.take a.n),Jz b (l.drop a.n) with
  |some x,ah y=>ah (x,y)
  |_,_=>aj
def FY (P:aWt) (H:aWi) (t:aWu) (x:LV):T LV:=
 match SE P t,HN P t with
 | some U,ah n=>
  match x with
  | .own k off=>match H[k]? with
   |some b=>if b.E4=U/\off+n<=M b.c then .ok (Ju<|(b.c.drop off).take n) else .no
   |none=> .no
  | .xq m f=>if n<=m then .ok (Ju<|(au n).map f) else .no
  | .op k es i j=>match H[k]? with
   |some ⟨_,_,.vec e l,_⟩=>if e.n=es/\j+n<=es then .req (i<M l) (.ok<|Ju<|((Bq e<|l.getD i e.dflt).drop j).take n) else .no
   |_=> .no
  |_=> .no
 | some X,_=>
  match x with
  | .own k off=>match H[k]? with
   |some b=>if b.E4=U then (match b.c[off]? with
    |some y=> .ok y
    |none=> .no) else .no
   |none=> .no
  | .xq m f=>if 0<m then .ok (f 0) else .no
  | .op k es i j=>match H[k]? with
   |some ⟨_,_,.vec e l,_⟩=>if e.n=es then .req (i<M l) (match (Bq e<|l.getD i e.dflt)[j]? with
    |some y=> .ok y
    |none=> .no) else .no
   |_=> .no
  |_=> .no
 |_,_=> .no
def TW (P:aWt) (H:aWi) (t:aWu) (x y:LV):T (List AB):=
 match HN P t,CN y with
 | some n,ah cs=>match x with
  | .own k off=>match H[k]? with
   |some b=>if b.E4=U/\b.p=X/\M cs=n/\off+n<=M b.c then .ok (H.set k ⟨setAt b.c off cs,b.t,b.k,b.p⟩) else .no
   |none=> .no
  | .op k es i j=>match H[k]? with
   |some ⟨_,bt,.vec e l,X⟩=>if e.n=es/\M cs=n/\j+n<=es then .req (i<M l) (match Jz e (setAt (Bq e<|l.getD i e.dflt) j cs) with
    |some d=> .ok (H.set k ⟨[],bt,.vec e<|l.set i d,X⟩)
    |none=> .no) else .no
   |_=> .no
  |_=> .no
 |_,_=> .no
def X2 (P:aWt) (s:aWu) (x:LV) (i:aWe):T LV:=
 match P.underlying s with
 | some (.struct fs)=>match fs[i]? with
  | some f=>match HN P f.type with
   |some (m+1)=>match x with
    | .own k off=> .ok (.own k<|off+f.offset)
    | .op k es i j=> .ok (.op k es i<|j+f.offset)
    | .xq n g=>if f.offset+(m+1)<=n then .ok (.xq (n-f.offset) λj=>g<|f.offset+j) else .no
    |_=> .no
   |_=> .no
  |none=> .no
 |_=> .no
def wV (P:aWt) (t:aWu) (l:aWf) (i:aWe):T LV:=
 match P.underlying t with
 | some (.struct fs)=>match fs[i]? with
  | some f=>match SE P f.type,HN P f.type with
   |some U,ah n=>if f.offset+n<=M l then .ok (Ju<|(l.drop f.offset).take n) else .no
   |some X,_=>match l[f.offset]? with
    |some y=> .ok y
    |none=> .no
   |_,_=> .no
  |none=> .no
 |_=> .no
def wX:LV->Option (List LV)
 | .agg l=>ah l
 | .v (.agg ys)=>ah (ys.toList.map .v)
 |_=>aj
def wK (P:aWt) (t:aWu) (l:aWf) (i:LV):T LV:=
 match P.underlying t,i with
 |some (.array len e),.ki _ j=>match SE P e,HN P e,l[j.toNat]? with
  |some X,ah 1,ah y=>if 0<=j/\j<(len:Y) then .ok y else .no
  |_,_,_=> .no
 |_,_=> .no
def chain (n:Y) (g:aWe->LV):aWe->aWe->T LV
 |0,_=> .no
 |m+1,j=> .br (n==(j:Y)) (.ok<|g j)<|chain n g m<|j+1
def Uv:LV->Bool
 | .ki _ _=>U
 |_=>X
def addN:aWe->aWe->Nat
 |0,n=>n
 |m+1,n=>m+1+n
def awE:∀(m n:aWe),addN m n=m+n
 |0,n=>by simp [addN]
 |m+1,n=>rfl
def Ta (P:aWt) (t:aWu) (x:LV) (c:aWo) (i:LV):T LV:=
 match pl i with
 | some (.int _ n)=>match P.underlying t with
  | some (.array len e)=>match HN P e with
   |some (m+1)=>match x with
    | .op k es i j=>if c then (if 0<=n/\n<len then .ok (.op k es i<|j+n.toNat*(m+1)) else .no) else chain n (λq=> .op k es i<|j+q*(m+1)) len 0
    | .own k off=>if c then (if 0<=n/\n<len then .ok (.own k<|off+n.toNat*(m+1)) else .no) else chain n (λj=> .own k<|off+j*(m+1)) len 0
    | .xq q g=>if len*(m+1)<=q then (if c then (if 0<=n/\n<len then .ok (.xq (m+1) λj=>g<|n.toNat*(m+1)+j) else .no) else if len=3 then chain n (λi=> .xq (m+1) λj=>g<|i*(m+1)+j) len 0 else .req (0<=n/\n<(len:Y)) (.ok<|.xq (m+1) λj=>g<|n.toNat*(m+1)+j)) else .no
    |_=> .no
   |_=> .no
  |some (.slice e)=>match HN P e,x with
   |some (m+1),.xl e' l=>if e'.n=m+1 then .req (0<=n/\n<(M l:Y)) (.ok<|.xq (m+1) λj=>(Bq e'<|gx l n).getD j .junk) else .no
   |some (m+1),.os k es off len=>if es=m+1 then .req (0<=n/\n<(len:Y)) (.ok<|.op k es (addN off n.toNat) 0) else .no
   |some (m+1),.oc k es off len cp=>if es=m+1 then (if c then (if 0<=n/\n<(len:Y) then .ok (.own k<|(off+n.toNat)*(m+1)) else .no) else chain n (λj=> .own k<|(off+j)*(m+1)) len 0) else .no
   |_,_=> .no
  |_=> .no
 |_=> .no
def Kj (place:aWe->aXd) (cells:aWf):aWI->Option (List LV)
 | []=>ah cells
 |(i,x)::rest=>match place i,CN x with
  |some (off,size),ah cs=>if M cs=size/\off+size<=M cells then Kj place (setAt cells off cs) rest else aj
  |_,_=>aj
def aQw (P:aWt) (t:aWu):Option (Nat->Option (Nat×Nat)):=
 match P.underlying t with
 |some (.struct fields)=>(fields.toList.mapM λf=>(P.info? f.type).map λi=>(f.offset,i.size)).map λps=>λi=>ps.toArray[i]?
 |some (.array _ e)=>(P.info? e).map λie=>λi=>ah (i*ie.size,ie.size)
 |_=>aj
def Nc (P:aWt) (t:aWu) (parts:aWI):T LV:=
 match IV P t,aQw P t with
 |some z,ah pf=>match Kj pf (z.cells.toList.map .v) parts with
  |some cs=> .ok (if parts.any (λq=>Uv q.2) then .agg cs else Ju cs)
  |none=> .no
 |_,_=> .no
def Hx (G:B5) (F:aWf):aWS->LV
 | .const x=>norm (AL G F<|.const x)
 |o=>AL G F o
def C1 (H:aWi):aWe->LV->LV
 |0,_=> .junk
 |d+1,.own k off=>match H[k]? with
  |some b=>if b.E4 then .xq (M b.c-off) (λj=>C1 H d<|b.c.getD (off+j) .junk) else .junk
  |none=> .junk
 |_+1,.os k es off n=>match H[k]? with
  |some ⟨_,_,.vec e l,_⟩=>if e.n=es then .xl e ((l.drop off).take n) else .junk
  |_=> .junk
 |_+1,.op k es i j=>match H[k]? with
  |some ⟨_,_,.vec e l,_⟩=>if e.n=es then .xq (es-j) (λq=>(Bq e<|l.getD i e.dflt).getD (j+q) .junk) else .junk
  |_=> .junk
 |d+1,.om k=>match H[k]? with
  |some ⟨_,_,.mp kd ks vs,_⟩=> .mp kd ks (vs.map<|C1 H d)
  |_=> .junk
 |_+1,.v x=> .v x
 |_+1,.bl x=> .v (.bool x)
 |_+1,.ki k n=> .v (ag k n)
 |d+1,.agg l=> .agg (l.map<|C1 H d)
 |d+1,.AO l=> .AO (l.map<|C1 H d)
 |d+1,.fn f l=> .fn f (l.map<|C1 H d)
 |d+1,.fb f l=> .fb f (l.map<|C1 H d)
 |_+1,.xq n f=> .xq n f
 |_+1,.xl e l=> .xl e l
 |d+1,.mp kd ks vs=> .mp kd ks (vs.map<|C1 H d)
 |_+1,.oc ..=> .junk
 |_+1,.CO _=> .junk
 |_+1,.junk=> .junk
def GK {α:Type}(g:α->T Unit):List α->T Unit
 | []=> .ok ()
 |x::xs=>(g x).bind λ_=>GK g xs
def EZ (H:aWi):aWe->LV->T Unit
 |0,_=> .ok ()
 |d+1,.own k _=>match H[k]? with
  |some b=>GK (EZ H d) b.c
  |none=> .ok ()
 |_+1,.os k _ off n=>match H[k]? with
  |some ⟨_,_,.vec _ l,_⟩=> .req (off+n<=M l) (.ok ())
  |_=> .ok ()
 |_+1,.op k _ i _=>match H[k]? with
  |some ⟨_,_,.vec _ l,_⟩=> .req (i<M l) (.ok ())
  |_=> .ok ()
 |d+1,.om k=>match H[k]? with
  |some ⟨_,_,.mp _ _ vs,_⟩=>GK (EZ H d) vs
  |_=> .ok ()
 |d+1,.agg l=>GK (EZ H d) l
 |d+1,.AO l=>GK (EZ H d) l
 |d+1,.fn _ l=>GK (EZ H d) l
 |d+1,.fb _ l=>GK (EZ H d) l
 |d+1,.mp _ _ l=>GK (EZ H d) l
 |_+1,_=> .ok ()
mutual
def noOwn:LV->Bool
 | .own _ _=>X
 | .os ..=>X
 | .op ..=>X
 | .om _=>X
 | .oc ..=>X
 | .CO _=>X
 | .agg l=>noOwnL l
 | .AO l=>noOwnL l
 | .fn _ l=>noOwnL l
 | .fb _ l=>noOwnL l
 | .mp _ _ l=>noOwnL l
 |_=>U
def noOwnL:aWf->Bool
 | []=>U
 |x::xs=>noOwn x&&noOwnL xs
end
/-Which own blocks a value names. -/
mutual
def owns:LV->List Nat
 | .own k _=>[k]
 | .os k _ _ _=>[k]
 | .op k _ _ _=>[k]
 | .om k=>[k]
 | .oc k _ _ _ _=>[k]
 | .CO k=>[k]
 | .agg l=>ownsL l
 | .AO l=>ownsL l
 | .fn _ l=>ownsL l
 | .fb _ l=>ownsL l
 | .mp _ _ l=>ownsL l
 |_=>[]
def ownsL:aWf->List Nat
 | []=>[]
 |x::xs=>owns x++ownsL xs
end
def AB.owns (b:AB):aWj:=ownsL b.c++(match b.k with| .mp _ _ vs=>ownsL vs|_=>[])
def reach (H:aWi):aWe->aWj->aWj->List Nat
 |0,_,acc=>acc
 |_+1,[],acc=>acc
 |d+1,k::ks,acc=>if acc.contains k then reach H d ks acc else reach H d (ks++(match H[k]? with|some b=>b.owns|none=>[])) (acc++[k])
def KT (H:aWi) (ks:aWj) (l:aWf):aWo:=
 (ownsL l).all ks.contains&&ks.all (λk=>match H[k]? with|some b=>b.owns.all ks.contains|none=>X)
def Ft (ks:aWj):aWe->aWi->List AB
 |_,[]=>[]
 |k,b::bs=>(if ks.contains k then ⟨b.c,b.t,b.k,U⟩ else b)::Ft ks (k+1) bs
def S8 (x:LV):aWo:=(pl x).isSome
def Ql:T LV->T LV
 | .ok x=>if S8 x then .ok x else .no
 | .br b t e=> .br b (Ql t) (Ql e)
 | .req p t=> .req p (Ql t)
 | .no=> .no
def iY (c a b:LV):T LV:=
 match c with
 | .bl U=> .ok a
 | .bl X=> .ok b
 | .v (.bool g)=>match norm a,norm b with
  | .v (ag k n),.v (.int k' m)=>if k=k' then .ok (.v<|ag k (if g then n else m)) else .no
  | .v (.bool p),.v (.bool q)=> .ok (.v<|.bool (if g then p else q))
  |_,_=> .br g (.ok a) (.ok b)
 |_=> .no
def V3:aWH->Bool
 | []=>U
 | [p]=>p
 |p::ps=>p&&V3 ps
mutual
def eqV (P:aWt):aWe->aWu->aWx->aWx->Option Bool
 |0,_,_,_=>aj
 |d+1,t,x,y=>match P.underlying t,x,y with
  |some (.int _),ag k a,.int k' b=>if k=k' then ah (a==b) else aj
  |some .bool,.bool a,.bool b=>ah (a==b)
  |some .string,.string a,.string b=>ah (a==b)
  |some (.struct fs),.agg xs,.agg ys=>if P.stoodInHeld t then aj else (eqFs P d xs ys fs.toList).map V3
  |_,_,_=>aj
def eqFs (P:aWt):aWe->aWz->aWz->aXk->Option (List Bool)
 |_,_,_,[]=>ah []
 |0,_,_,_::_=>aj
 | d+1,xs,ys,f::fs=>if f.name= "_" then aj else match J5 P (part f.type xs f.offset),J5 P (part f.type ys f.offset) with
  |some a,ah b=>match eqV P d f.type a b,eqFs P d xs ys fs with
   |some p,ah ps=>ah (p::ps)
   |_,_=>aj
  |_,_=>aj
end
def aSn:BinOp->Option Bool
 | .eql=>ah X
 | .neq=>ah U
 |_=>aj
def Qp (P:aWt) (o:Op) (e:aWS->aWx):Option (Option Value):=
 match o with
 | .binOp op t x y _=>match aSn op with
  | some neg=>match e x,e y with
   | .agg xs,.agg ys=>ah (match J5 P (eqGuard op t x y (.agg xs)<|.agg ys),eqV P 100 t (.agg xs) (.agg ys) with
    |some _,ah b=>ah (.bool (match neg with|true=>!b|false=>b))
    |_,_=>aj)
   |_,_=>aj
  |none=>aj
 |_=>aj
def OI (P:aWt) (o:aWw) (e:aWS->aWx):aWZ:=
 match Qp P o.op e with
 |some r=>r
 |none=>match J5 P (execOp e o) with
  |some (.value y)=>ah y
  |_=>aj
def bZ:LV->Bool
 | .ki _ _=>U
 | .bl _=>U
 | .v (.slice aj _ _)=>U
 |_=>X
def kn:aWx->LV
 | ag k n=> .ki k n
 | .bool b=> .bl b
 |y=> .v y
def Dk (P:aWt) (G:B5) (F:aWf) (o:aWw):T LV:=
 if o.op.operands.toList.all (λx=>S8<|AL G F x) then
  match OI P o (λx=>(pl<|AL G F x).getD undef) with
  |some y=> .ok (if o.op.operands.toList.all (λx=>bZ<|AL G F x) then kn y else .v y)
  |none=> .no
 else .no
def V4 (r:aWu->Option Ty):aWK->Option Ty
 | []=>aj
 | [t]=>r t
 |t::ts=>match r t,V4 r ts with
  |some a,ah b=>ah (.pair a b)
  |_,_=>aj
def Ib (P:aWt):aWe->aWu->Option Ty
 |0,_=>aj
 |m+1,t=>match P.underlying t with
  |some (.int k)=>ah (.int k)
  |some .bool=>ah .bool
  |some .string=>ah .str
  |some (.struct fs)=>V4 (Ib P m) (fs.toList.map (·.type))
  |some (.array n e)=>V4 (Ib P m) (aq n e)
  |some (.slice e)=>(Ib P m e).map .sl
  |_=>aj
def bh (e:Ty):aWe->aWf->Option (List e.D)
 |0,_=>ah []
 |n+1,cs=>match Jz e (cs.take e.n),bh e n (cs.drop e.n) with
  |some d,ah r=>ah (d::r)
  |_,_=>aj
def L7 (P:aWt) (t:aWu) (len:aWe) (parts:aWI):T LV:=
 match P.underlying t with
 |some (.slice e)=>match Ib P 8 e,HN P e,IV P e with
  | some ty,ah m,ah z=>if ty.n=m/\z.cells.size=m/\0<len*m/\len*m<=2^24 then
    (match Kj (λi=>ah (i*m,m)) ((au<|len*m).map λi=> .v<|z.cells[i%z.cells.size]!) parts with
    |some cs=>match bh ty len cs with
     |some l=> .ok (.xl ty l)
     |none=> .no
    |none=> .no) else .no
  |_,_,_=> .no
 |_=> .no
def dS (P:aWt) (t:aWu):aWo:=
 match P.underlying t with
 |some (.slice e)=>(Ib P 8 e).isSome
 |_=>X
def nY (P:aWt) (H:aWi) (t:aWu) (len:aWe) (parts:aWI):T (LV×List AB):=
 match P.underlying t with
 |some (.slice e)=>match HN P e,IV P e with
  | some m,ah z=>if z.cells.size=m/\0<len*m/\len*m<=2^24 then
    (match Kj (λi=>ah (i*m,m)) ((au<|len*m).map λi=> .v<|z.cells[i%z.cells.size]!) parts with
    |some cs=> .ok (.oc (M H) m 0 len len,H++[⟨cs,e,.cl,X⟩])
    |none=> .no) else .no
  |_,_=> .no
 |_=> .no
def nX (P:aWt) (H:aWi) (t:aWu) (len:aWe) (parts:aWI):T (LV×List AB):=
 if KT H (reach H 64 (ownsL<|parts.map (·.2)) []) (parts.map (·.2)) then
  ((GK (EZ H 6)<|parts.map (·.2)).bind λ_=>L7 P t len<|parts.map λq=>(q.1,C1 H 6 q.2)).bind λy=> .ok (y,Ft (reach H 64 (ownsL<|parts.map (·.2)) []) 0 H)
 else .no
def FX (H:aWi) (e:Ty):LV->T (List e.D)
 | .os k es off n=>match H[k]? with
  |some ⟨_,_,.vec e' l,_⟩=>if e'.n=es then (match Jw e' e with
   |some ⟨h⟩=> .req (off+n<=M l) (.ok<|Kl h<|(l.drop off).take n)
   |none=> .no) else .no
  |_=> .no
 |x=>match N2 e x with
  |some l=> .ok l
  |none=> .no
def aTj (P:aWt) (t:aWu):aWG:=(P.info? t).map (·.bytes)
def PF (P:aWt) (t:aWu):Option (TypeId×Ty×Nat×Nat):=
 match P.underlying t with
 |some (.slice e)=>match Ib P 8 e,HN P e,aTj P e with
  |some ty,ah m,ah FM=>if ty.n=m/\0<m then ah (e,ty,m,FM) else aj
  |_,_,_=>aj
 |_=>aj
def ba (P:aWt) (H:aWi) (t:aWu) (len:aWe) (parts:aWI):T (LV×List AB):=
 if KT H (reach H 64 (ownsL<|parts.map (·.2)) []) (parts.map (·.2)) then
  ((GK (EZ H 6)<|parts.map (·.2)).bind λ_=>L7 P t len<|parts.map λq=>(q.1,C1 H 6 q.2)).bind λy=>match P.underlying t,y with
   |some (.slice e),.xl ty l=> .ok (.os (M H) ty.n 0 len,Ft (reach H 64 (ownsL<|parts.map (·.2)) []) 0 H++[⟨[],e,.vec ty l,X⟩])
   |_,_=> .no
 else .no
def aPz (Γ:aWR) (t:aWu):aWo:=(Γ<|1000000+t).isSome
def UC (P:aWt) (H:aWi) (t:aWu) (n c:LV):T (LV×List AB):=
 match PF P t,pl n,pl c with
 | some (e,ty,m,FM),ah (ag J n),ah (ag J c)=>match IV P e with
  |some z=>match Jz ty (z.cells.toList.map .v) with
   |some d=>if z.cells.size=m then .req (0<=n/\n<=c/\FM*c<=2^48/\c<2^63) (.ok (.os (M H) m 0 n.toNat,H++[⟨[],e,.vec ty<|aq n.toNat d,X⟩])) else .no
   |none=> .no
  |none=> .no
 |_,_,_=> .no
def X4 (P:aWt) (H:aWi) (t:aWu):T (LV×List AB):=
 match PF P t with
 |some (e,ty,m,_)=> .ok (.os (M H) m 0 0,H++[⟨[],e,.vec ty [],X⟩])
 |none=> .no
def LR (P:aWt) (H:aWi) (t tx:aWu) (x y:LV):T (LV×List AB):=
 match PF P t with
 | some (e,ty,m,FM)=>match P.underlying tx,IV P e with
  | some (.slice _),ah z=>if z.cells.size=m then (FX H ty y).bind (λq=>match x with
    | .v (.slice aj 0 0)=> .req ((M q:Y)*FM<=2^47/\(M q:Y)<2^62) (.ok (.os (M H) m 0<|M q,H++[⟨[],e,.vec ty q,X⟩]))
    | .os k es off n=>match H[k]? with
     |some ⟨_,bt,.vec e' l,X⟩=>match Jw e' ty with
      | some ⟨h⟩=>if es=m/\bt=e then .req (off+n=M l/\((n+M q:aWe):Y)*FM<=2^47/\((n+M q:aWe):Y)<2^62)
        (.ok (.os (M H) m 0<|n+M q,H.set k ⟨[],e,.dead,X⟩++[⟨[],e,.vec ty<|Kl h (l.drop off)++q,X⟩])) else .no
      |none=> .no
     |_=> .no
    |_=> .no) else .no
  |_,_=> .no
 |none=> .no
def BI {α:Type}(q l:List α):List α:=q++l.drop (M q)
def Xi (P:aWt) (H:aWi) (t tx:aWu) (x y:LV):T (LV×List AB):=
 match PF P t,P.underlying tx with
 | some (_,ty,m,_),ah (.slice _)=>match x with
  | .os k es 0 n=>match H[k]? with
   |some ⟨c,bt,.vec e' l,X⟩=>match Jw e' ty with
    |some ⟨h⟩=>if es=m then (FX H ty y).bind λq=> .req (n=M l/\M q<=n) (.ok (.v<|ag J (M q:Y),H.set k ⟨c,bt,.vec ty<|BI q<|Kl h l,X⟩)) else .no
    |none=> .no
   |_=> .no
  |_=> .no
 |_,_=> .no
def tB (P:aWt) (t:aWu) (x:LV) (lo hi:aXe):T LV:=
 match P.underlying t with
 | some (.slice e)=>match HN P e with
  | some (m+1)=>
   let b (o:aXe) (d:Y):Option Int:=match o with
    |none=>ah d
    |some y=>match pl y with
     |some (.int _ n)=>ah n
     |_=>aj
   match x with
   | .xl ty l=>match b lo 0,b hi (M l:Y) with
    |some i,ah j=>if ty.n=m+1 then .req (0<=i/\i<=j/\j<=(M l:Y)) (.ok<|.xl ty<|(l.drop i.toNat).take<|j.toNat-i.toNat) else .no
    |_,_=> .no
   | .os k es off n=>match b lo 0,b hi (n:Y) with
    |some i,ah j=>if es=m+1 then .req (0<=i/\i<=j/\j<=(n:Y)) (.ok<|.os k es (off+i.toNat)<|j.toNat-i.toNat) else .no
    |_,_=> .no
   |_=> .no
  |_=> .no
 |_=> .no
def rR (P:aWt) (t:aWu) (x:LV) (lo:aXe) (hi mx:LV):T LV:=
 match P.underlying t with
 | some (.slice e)=>match HN P e with
  | some (m+1)=>match x with
   | .xl ty l=>match (match lo with|none=>ah 0|some y=>match pl y with|some (.int _ n)=>ah n|_=>none:Option Int),pl hi,pl mx with
    |some i,ah (.int _ j),ah (.int _ q)=>if ty.n=m+1 then .req (0<=i/\i<=j/\j<=(M l:Y)/\q=j) (.ok<|.xl ty<|(l.drop i.toNat).take<|j.toNat-i.toNat) else .no
    |_,_,_=> .no
   |_=> .no
  |_=> .no
 |_=> .no
def ct (kd:aWW) (n:Y) (z:aWx):aWd->aWf->T LV
 |k::ks,v::vs=> .br (n==k) (.ok v) (ct kd n z ks vs)
 |_,_=> .ok<|.v z
def wH:(e:Ty)->e.D->Value
 | .int k,n=> ag k n
 | .str,s=> .string s
 | .bool,b=> .bool b
 | .sl _,_=>undef
 | .pair _ _,_=>undef
def Mx:(e:Ty)->aWx->Option e.D
 | .int k,v=>match v with
  | .int k' n=>if k'=k then ah n else aj
  |_=>aj
 | .str,v=>match v with
  | .string s=>ah s
  |_=>aj
 |_,_=>aj
def na:(e:Ty)->e.D->List e.D->Bool
 | .int _,x,l=>List.contains (α:=Int) l x
 | .str,x,l=>List.contains (α:=ByteArray) l x
 |_,_,_=>X
def bT (P:aWt) (t:aWu):Option Ty:=
 match P.underlying t with
 |some (.map kt et)=>match P.underlying et,P.underlying kt,IV P et with
  |some .bool,ah (.int k),ah (.bool X)=>ah (.int k)
  |some .bool,ah .string,ah (.bool X)=>ah .str
  |_,_,_=>aj
 |_=>aj
def abN (P:aWt) (t:aWu) (e:Ty) (l:List e.D) (i:LV):T LV:=
 match bT P t,pl i with
 |some e',ah v=>match Jw e' e,Mx e v with
  |some _,ah d=> .ok (.v<|.bool<|na e d l)
  |_,_=> .no
 |_,_=> .no
def UD (P:aWt) (H:aWi) (t:aWu) (x i:LV):T LV:=
 match P.underlying t with
 | some (.map kt et)=>match P.underlying kt,IV P et,pl i with
  | some (.int kd),ah z,ah (.int kd' n)=>if kd'=kd/\K2 z=U then (match x with
   | .mp kd2 ks vs=>if kd2=kd/\M ks=M vs then ct kd n z ks vs else .no
   | .om k=>match H[k]? with
    |some ⟨_,_,.mp kd2 ks vs,_⟩=>if kd2=kd/\M ks=M vs then ct kd n z ks vs else .no
    |_=> .no
   |_=> .no) else .no
  |_,_,_=> .no
 |_=> .no
def cW (kd:aWW) (n:Y) (z:aWx):aWd->aWf->T LV
 |k::ks,v::vs=> .br (n==k) (.ok<|.AO [norm v,.bl U]) (cW kd n z ks vs)
 |_,_=> .ok<|.AO [.v z,.bl X]
def XG (P:aWt) (H:aWi) (t:aWu) (x i:LV):T LV:=
 match P.underlying t with
 | some (.map kt et)=>match P.underlying kt,IV P et,pl i with
  | some (.int kd),ah z,ah (.int kd' n)=>if kd'=kd/\K2 z=U then (match x with
   | .mp kd2 ks vs=>if kd2=kd/\M ks=M vs then cW kd n z ks vs else .no
   | .om k=>match H[k]? with
    |some ⟨_,_,.mp kd2 ks vs,_⟩=>if kd2=kd/\M ks=M vs then cW kd n z ks vs else .no
    |_=> .no
   |_=> .no) else .no
  |_,_,_=> .no
 |_=> .no
def XW (P:aWt) (H:aWi) (t:aWu) (x i:LV):T LV:=
 match x with
 | .om k=>match H[k]? with
  |some ⟨_,_,.st e l,_⟩=>abN P t e l i
  |_=>UD P H t x i
 |_=>UD P H t x i
def Ux (P:aWt) (H:aWi) (t:aWu) (x i y:LV):T (List AB):=
 match P.underlying t with
 | some (.map kt _)=>match P.underlying kt,pl i,x with
  |some (.int kd),ah (.int kd' n),.om k=>match H[k]? with
   |some ⟨_,bt,.mp kd2 ks vs,X⟩=>if kd'=kd/\kd2=kd/\M ks=M vs/\ks.contains n=X then .ok (H.set k ⟨[],bt,.mp kd (ks++[n])<|vs++[y],X⟩) else .no
   |_=> .no
  |_,_,_=> .no
 |_=> .no
def insL (P:aWt) (H:aWi) (t:aWu) (x i y:LV):T (List AB):=
 match x with
 | .om k=>match H[k]? with
  | some ⟨_,bt,.st e l,X⟩=>match bT P t,pl i,y with
   |some e',ah v,.bl U=>match Jw e' e,Mx e v with
    |some _,ah d=> .req (na e d l=X) (.ok<|H.set k ⟨[],bt,.st e<|l++[d],X⟩)
    |_,_=> .no
   |_,_,_=> .no
  |_=>Ux P H t x i y
 |_=>Ux P H t x i y
def kindOf (P:aWt) (t:aWu):Option IntKind:=
 match P.underlying t with
 |some (.map kt _)=>match P.underlying kt with
  |some (.int kd)=>ah kd
  |_=>aj
 |_=>aj
def LP (P:aWt):aWe->aWu->Bool
 |0,_=>X
 |m+1,t=>match P.underlying t with
  |some (.int _) |some .bool|some .string=>U
  |some (.struct fs)=>fs.toList.all (λf=>LP P m f.type)
  |some (.array _ e)=>LP P m e
  |some (.tuple ts)=>ts.toList.all (LP P m)
  |_=>X
def JR (s:aWM) (n:Y):Y:=(((s[n.toNat]?).getD 0).toNat:Y)
def Lf (P:aWt) (Γ:aWR) (H:aWi) (o:aWw) (g:aWF) (l:aWf):T (LV×List AB):=
 match P.funcs[g]? with
 | some fn=>if fn.body.isSome&&!(fn.name== "runtime.NumGoroutine") then
   match Γ g with
   |some S=>
    if noOwnL l then (S l).bind λy=> .ok (y,H)
    else if LP P 8 o.type then ((GK (EZ H 6) l).bind λ_=>Ql<|S<|l.map<|C1 H 6).bind λy=> .ok (y,H)
    else if KT H (reach H 64 (ownsL l) []) l then ((GK (EZ H 6) l).bind λ_=>S<|l.map<|C1 H 6).bind λy=> .ok (y,Ft (reach H 64 (ownsL l) []) 0 H) else .no
   |none=> .no
  else .no
 |none=> .no
def jI (P:aWt) (x:LV) (name:aXh):Option (FuncId×Value):=
 match pl x with
 |some (.iface t v)=>J5 P (method (P.types.size+Made.depth) t v name)
 |_=>aj
def Ax (P:aWt) (G:B5) (Γ:aWR) (F:aWf) (H:aWi) (o:aWw):T (LV×List AB):=
 match o.op with
 | .select _ _=> .no
 | .move x=> .ok (AL G F x,H)
 | .assign x=> .ok (AL G F x,H)
 | .pick c a b=>(iY (AL G F c) (AL G F a)<|AL G F b).bind λy=> .ok (y,H)
 | .alloc t=>match IV P t with
  |some z=>match CN (.v z) with
   |some cs=> .ok (.own (M H) 0,H++[⟨cs,t,.cl,X⟩])
   |none=> .no
  |none=> .no
 | .box t x=>match CN (AL G F x) with
  |some cs=> .ok (.own (M H) 0,H++[⟨cs,t,.cl,X⟩])
  |none=> .no
 | .load t x=>(FY P H t<|AL G F x).bind λy=> .ok (y,H)
 | .store t x y=>(TW P H t (AL G F x)<|AL G F y).bind λH'=> .ok (.v undef,H')
 | .fieldAddr s x i=>(X2 P s (AL G F x) i).bind λy=> .ok (y,H)
 | .indexAddr t x i=>(Ta P t (AL G F x) (Uv<|AL G F i)<|AL G F i).bind λy=> .ok (y,H)
 | .build t parts=>(Nc P t<|parts.toList.map λq=>(q.1,Hx G F q.2)).bind λy=> .ok (y,H)
 | .buildSlice t len parts=>if len=0 then (if parts.toList.isEmpty then X4 P H t else .no) else if dS P t then (if aPz Γ t then ba P H t len (parts.toList.map λq=>(q.1,AL G F q.2)) else if noOwnL ((parts.toList.map λq=>(q.1,AL G F q.2)).map (·.2)) then (L7 P t len<|parts.toList.map λq=>(q.1,AL G F q.2)).bind λy=> .ok (y,H) else nX P H t len (parts.toList.map λq=>(q.1,AL G F q.2))) else nY P H t len (parts.toList.map λq=>(q.1,AL G F q.2))
 | .makeSlice t n c=>UC P H t (AL G F n) (AL G F c)
 | .slice t x lo hi aj=>match AL G F x with
  | .v _=>(Dk P G F o).bind λy=> .ok (y,H)
  |_=>(tB P t (AL G F x) (lo.map<|AL G F)<|hi.map<|AL G F).bind λy=> .ok (y,H)
 | .slice t x lo (ah hi) (ah mx)=>match AL G F x with
  | .v _=>(Dk P G F o).bind λy=> .ok (y,H)
  |_=>(rR P t (AL G F x) (lo.map<|AL G F) (AL G F hi)<|AL G F mx).bind λy=> .ok (y,H)
 | .makeMap t aj=>match bT P t with
  |some e=> .ok (.om<|M H,H++[⟨[],t,.st e [],X⟩])
  |none=>match kindOf P t with
   |some kd=> .ok (.om<|M H,H++[⟨[],t,.mp kd [] [],X⟩])
   |none=> .no
 | .insert t m i x=>(insL P H t (AL G F m) (AL G F i)<|AL G F x).bind λH'=> .ok (.v undef,H')
 | .mapUpdate t m i x=>(insL P H t (AL G F m) (AL G F i)<|AL G F x).bind λH'=> .ok (.v undef,H')
 | .lookup t x i X=>(XW P H t (AL G F x)<|AL G F i).bind λy=> .ok (y,H)
 | .lookup t x i U=>match AL G F x with
  | .v _=>(Dk P G F o).bind λy=> .ok (y,H)
  |_=>(XG P H t (AL G F x)<|AL G F i).bind λy=> .ok (y,H)
 | .extract x i=>match AL G F x with
  | .AO l=>match l[i]? with
   |some y=> .ok (y,H)
   |none=> .no
  |_=>(Dk P G F o).bind λy=> .ok (y,H)
 | .field t x i=>match AL G F x with
  | .agg l=>(wV P t l i).bind λy=> .ok (y,H)
  |_=>(Dk P G F o).bind λy=> .ok (y,H)
 | .makeFunc (.func f) first cap=>if first.toList.isEmpty then .ok (.fn f<|cap.toList.map<|AL G F,H) else if cap.toList.isEmpty then .ok (.fb f<|first.toList.map<|AL G F,H) else .no
 | .nilCheck x=>match AL G F x with
  | .own k off=> .ok (.own k off,H)
  | .op k es i j=> .ok (.op k es i j,H)
  | .xq n f=> .ok (.xq n f,H)
  | .fn f l=> .ok (.fn f l,H)
  | .fb f l=> .ok (.fb f l,H)
  |_=>(Dk P G F o).bind λy=> .ok (y,H)
 | .binOp .quo t x y _=>match pl (AL G F x),pl (AL G F y) with
  |some (ag k n),ah (.int k' m)=>if k=k' then .req (m≠0) (.ok (.v<|ag k<|k.wrap<|n.tdiv m,H)) else .no
  |_,_=> .no
 | .binOp .rem t x y _=>match pl (AL G F x),pl (AL G F y) with
  |some (ag k n),ah (.int k' m)=>if k=k' then .req (m≠0) (.ok (.v<|ag k<|n.tmod m,H)) else .no
  |_,_=> .no
 | .binOp .shl t x y _=>if Uv (AL G F y) then (Dk P G F o).bind λy=> .ok (y,H) else match pl (AL G F x),pl (AL G F y) with
  |some (ag k n),ah (.int _ m)=> .req (0<=m) (.ok (.v<|ag k<|k.wrap<|n*2^(min m.toNat k.bits),H))
  |_,_=> .no
 | .binOp .shr t x y _=>if Uv (AL G F y) then (Dk P G F o).bind λy=> .ok (y,H) else match pl (AL G F x),pl (AL G F y) with
  |some (ag k n),ah (.int _ m)=> .req (0<=m) (.ok (.v<|ag k<|n.fdiv<|2^(min m.toNat k.bits),H))
  |_,_=> .no
 | .index t x i=>match wX (AL G F x) with
  |some l=>(wK P t l<|AL G F i).bind λy=> .ok (y,H)
  |none=>match P.underlying t,pl<|AL G F x,pl (AL G F i) with
   |some .string,ah (.string s),ah (.int _ n)=> .req (0<=n/\n<(s.size:Y)) (.ok (.v<|ag aw<|JR s n,H))
   |_,_,_=> .no
 | .call {callee:=.value f,args,..}=>match AL G F f with
  | .fn g cap=>Lf P Γ H o g (args.toList.map (λx=>norm<|AL G F x)++cap)
  | .fb g fs=>Lf P Γ H o g (fs++args.toList.map (λx=>norm<|AL G F x))
  |_=> .no
 | .call {callee:=.invoke r name,args,..}=>match jI P (AL G F r) name with
  |some (g,rv)=>Lf P Γ H o g (.v rv::args.toList.map (λx=>norm<|AL G F x))
  |none=> .no
 | .call {callee:=.builtin .append,args,argTypes}=>match args.toList.map (AL G F),argTypes.toList with
  | [x,y],[t,tx]=>LR P H t tx x y
  |_,_=> .no
 | .call {callee:=.builtin .copy,args,argTypes}=>match args.toList.map (AL G F),argTypes.toList with
  | [x,y],[t,tx]=>Xi P H t tx x y
  |_,_=> .no
 | .call {callee:=.builtin .len,args,argTypes}=>match args.toList.map (AL G F),(argTypes[0]?).bind P.underlying with
  | [.os _ _ _ n],ah (.slice _)=> .ok (.v<|ag J n,H)
  | [.xl _ l],ah (.slice _)=> .ok (.v<|ag J (M l:Y),H)
  | [.oc _ _ _ n _],ah (.slice _)=> .ok (.ki J n,H)
  |_,_=>(Dk P G F o).bind λy=> .ok (y,H)
 |_=>(Dk P G F o).bind λy=> .ok (y,H)
def Av (F:aWf):aWQ->LV->List LV
 |some d,x=>F.set d x
 |none,_=>F
structure Hand where
 k:aWF->aWf->aWi->T (LV×List AB)
 y:aWe->aWf->aWi->T (LV×List AB)
def aW5:qT (Hand):=⟨⟩
def G9:aW5:=⟨λ_ _ _=> .no,λ_ _ _=> .no⟩
def zb (G:B5) (F:aWf) (o:aWw):Option (Nat×List LV):=
 match o.op with
 | .call {callee:=.value f,args,..}=>match AL G F f with
  | .CO k=>ah (k,args.toList.map λx=>norm<|AL G F x)
  |_=>aj
 |_=>aj
def callOf (G:B5) (F:aWf) (o:aWw):Option (FuncId×List LV):=
 match o.op with
 | .call {callee:=.value f,args,..}=>match AL G F f with
  | .fn g cap=>ah (g,args.toList.map (λx=>norm<|AL G F x)++cap)
  | .fb g fs=>ah (g,fs++args.toList.map (λx=>norm<|AL G F x))
  | .v (.func (.func g) ⟨[]⟩ ⟨[]⟩)=>ah (g,args.toList.map λx=>norm<|AL G F x)
  |_=>aj
 |_=>aj
def KB (P:aWt) (G:B5) (Γ:aWR) (K:aW5) (F:aWf) (H:aWi) (o:aWw):T (LV×List AB):=
 match callOf G F o with
 | some (g,l)=>match Γ g with
  |some _=>Ax P G Γ F H o
  |none=>match P.funcs[g]? with
   |some fn=>if fn.body.isSome&&!(fn.name== "runtime.NumGoroutine") then K.k g l H else .no
   |none=> .no
 |none=>match zb G F o with
  |some (k,l)=>K.y k l H
  |none=>Ax P G Γ F H o
def iK (ty:Ty):aWf->Option (List<|List ty.D)
 | []=>ah []
 | x::xs=>match x with
  | .xl e l=>match Jw e ty,iK ty xs with
   |some ⟨h⟩,ah r=>ah (Kl h l::r)
   |_,_=>aj
  |_=>aj
def wJ (P:aWt) (G:B5) (F:aWf) (H:aWi) (o o2:aWw):Option (Int×Nat×LV):=
 if o.guard.isNone&&o2.guard.isNone then
  match o.op,o.dst,o2.op with
  | .indexAddr t x i,ah d,.load t2 (.tmp d2)=>
   if d2 =d/\d<M F/\SE P t2=ah X then
    match P.underlying t,AL G F x,AL G F i with
    | some (.array len e),.own k off,.v (.int _ n)=>
     if HN P e=ah 1 then
      match H[k]? with
      | some b=>
       if b.E4=U/\off+len<=M b.c then
        match (b.c.drop off).take len with
        | .xl ty l::rest=>match iK ty (.xl ty l::rest) with
         |some ls=>ah (n,len,.xl ty<|ls.getD n.toNat [])
         |none=>aj
        |_=>aj
       else aj
      |none=>aj
     else aj
    |_,_,_=>aj
   else aj
  |_,_,_=>aj
 else aj
def Ic (P:aWt) (G:B5) (Γ:aWR) (K:aW5) (ops:aWm):aWL->aWf->aWi->T (List LV×List AB)
 | [],F,H=> .ok (F,H)
 | o::os,F,H=>
  let go (F:aWf):T (List LV×List AB):=(KB P G Γ K F H o).bind λq=>Ic P G Γ K ops os (Av F o.dst q.1) q.2
  let pass (F:aWf):T (List LV×List AB):=Ic P G Γ K ops os (Av F o.dst<|.v undef) H
  match o.guard with
  | none=>match os with
   | []=>go F
   |o2::os2=>match wJ P G F H o o2 with
    |some (n,len,y)=> .req (0<=n/\n<(len:Y)) (Ic P G Γ K ops os2 (Av (Av F o.dst .junk) o2.dst y) H)
    |none=>go F
  | some (j,want)=>match (ops[j]?).bind (·.dst) with
   |some d=>match F.getD d .junk with
    | .bl b=>if b=want then go F else pass F
    | .v (.bool g)=>if want then .br g (go<|F.set d<|.bl U) (pass<|F.set d<|.bl X) else .br g (pass<|F.set d<|.bl U) (go<|F.set d<|.bl X)
    | .v (.tuple _)=>pass F
    |_=> .no
   |none=> .no
def nki:LV->LV
 | .ki k n=> .v (ag k n)
 |x=>x
def TH (b:aWo):LV->LV->LV
 | .v (ag k n),.v (.int k' m)=>if k=k' then .v (ag k (if b then n else m)) else .junk
 | .bl U,.bl X=> .v (.bool b)
 | .bl X,.bl U=> .v (.bool !b)
 | .bl U,.bl U=> .bl U
 | .bl X,.bl X=> .bl X
 | .v (.bool p),.bl X=> .v (.bool<|b&&p)
 | .v (.bool p),.bl U=> .v (.bool (!b ||p))
 | .bl U,.v (.bool q)=> .v (.bool (b ||q))
 | .bl X,.v (.bool q)=> .v (.bool<|!b&&q)
 | .v (.bool p),.v (.bool q)=> .v (.bool (if b then p else q))
 |_,_=> .junk
def XF (b:aWo) (x y:LV):LV:=TH b (nki x)<|nki y
def On (P:aWt) (o:aWw):aWo:=
 match o.op with
 | .alloc _| .box ..| .store ..| .makeSlice ..| .makeMap ..| .insert ..| .mapUpdate ..=>X
 | .buildSlice ..=>X
 | .call {callee:=.builtin .append,..}=>X
 | .call {callee:=.builtin .copy,..}=>X
 | .call {callee:=.value _,..}=>LP P 8 o.type
 | .call {callee:=.invoke ..,..}=>LP P 8 o.type
 |_=>U
def S9 (P:aWt) (Γ:aWR) (o:aWw):aWo:=
 On P o&&(match o.op with
 | .call {callee:=.value (.func g),..}=>(Γ g).isSome
 | .call {callee:=.value _,..}=>X
 |_=>U)
def Fc (ops:aWL):aWj:=ops.filterMap (·.dst)
def TZ (ds:aWj) (b:aWo) (F F1 F2:aWf):aWf:=(au<|M F).map λi=>if ds.contains i then XF b (F1.getD i .junk) (F2.getD i .junk) else F.getD i .junk
def fnX:LV->LV->Bool
 | .fn ..,.fn ..=>U
 | .fn ..,.v _=>U
 | .v _,.fn ..=>U
 |_,_=>X
def fnD (ds:aWj) (F1 F2:aWf):aWo:=ds.any λd=>fnX (F1.getD d .junk)<|F2.getD d .junk
def Kb (ds:aWj) (F:aWf) (H:aWi):T (List LV×List AB)->T (List LV×List AB)
 | .ok x=> .ok x
 | .no=> .no
 | .req p t=> .req p (Kb ds F H t)
 | .br b t e=>match Kb ds F H t,Kb ds F H e with
  | .ok x,.ok y=>if fnD ds x.1 y.1 then .br b (.ok x) (.ok y) else .ok (TZ ds b F x.1 y.1,H)
  |t',e'=> .br b t' e'
def aD2 (P:aWt) (G:B5) (Γ:aWR) (K:aW5) (ops:aWm) (F:aWf) (H:aWi):T (List LV×List AB):=
 if ops.toList.all (S9 P Γ) then Kb (Fc ops.toList) F H (Ic P G Γ K ops ops.toList F H) else Ic P G Γ K ops ops.toList F H
def isSp (P:aWt) (o:aWw):aWo:=
 match o.op with
 | .alloc _| .box ..| .store ..| .buildSlice ..| .makeSlice ..| .makeMap ..| .insert ..| .mapUpdate ..=>U
 | .call {callee:=.builtin .append,..}=>U
 | .call {callee:=.builtin .copy,..}=>U
 | .call {callee:=.value _,..}=>!LP P 8 o.type
 | .call {callee:=.invoke ..,..}=>!LP P 8 o.type
 |_=>X
def dY (sp:aWw->aWo):aWH->aWL->List Bool
 |fs,[]=>fs
 |fs,o::os=>dY sp (fs++[sp o ||o.after.toList.any (λe=>Region.binds .any e&&fs.getD e.on X)]) os
def am9 (o:aWw):aWo:=
 match o.op with
 | .assign _=>U
 |_=>X
def MR (H:aWi) (ops:aWL) (F:aWf):aWe->aWe->List Nat
 |0,_=>[]
 | d+1,t=>match ops.find? (λo=>o.dst==ah t&&!am9 o) with
  | some o=>match o.op with
   | .fieldAddr _ (.tmp y) _=>MR H ops F d y
   | .indexAddr _ (.tmp y) _=>MR H ops F d y
   | .move (.tmp y)=>MR H ops F d y
   | .nilCheck (.tmp y)=>MR H ops F d y
   | .load _ (.tmp y)=>(MR H ops F d y).flatMap λk=>match H[k]? with
    |some b=>ownsL b.c
    |none=>[]
   |_=>[]
  |none=>match F.getD t .junk with
   | .own k _=>[k]
   | .op k _ _ _=>[k]
   | .os k _ _ _=>[k]
   | .om k=>[k]
   |_=>[]
def tracked (H:aWi) (ops:aWL) (F:aWf):aWj:=ops.flatMap λo=>match o.op with
 | .store _ (.tmp x) _=>MR H ops F 12 x
 | .insert _ (.tmp x) _ _=>MR H ops F 12 x
 | .mapUpdate _ (.tmp x) _ _=>MR H ops F 12 x
 | .call {callee:=.builtin .append,args,..}=>match args.toList with
  |(.tmp x)::_=>MR H ops F 12 x
  |_=>[]
 | .call {callee:=.builtin .copy,args,..}=>match args.toList with
  |(.tmp x)::_=>MR H ops F 12 x
  |_=>[]
 |_=>[]
def aoU (H:aWi) (ops:aWL) (F:aWf) (tr:aWj) (o:aWw):aWo:=
 match o.op with
 | .load _ (.tmp x)=>(MR H ops F 12 x).any tr.contains
 |_=>X
def Qs (b:AB):AB:=
 match b.k with
 | .cl=>⟨aq (M b.c) .junk,b.t,.cl,b.p⟩
 |_=>⟨[],b.t,.dead,X⟩
def Eo (tr:aWj):aWe->aWi->List AB
 |_,[]=>[]
 |k,b::bs=>(if tr.contains k then Qs b else b)::Eo tr (k+1) bs
def Wq (o:aWw):aWo:=
 match o.op with
 | .call {callee:=.value _,..}=>U
 | .call {callee:=.invoke ..,..}=>U
 |_=>X
def sI (G:B5) (F:aWf) (tr:aWj) (o:aWw):aWo:=
 match o.op with
 | .load _ x=>match AL G F x with
  | .own k _=>!tr.contains k
  | .op k _ _ _=>!tr.contains k
  |_=>U
 | .lookup _ x _ _=>match AL G F x with
  | .om k=>!tr.contains k
  |_=>U
 |_=>U
def aLo (t:T<|LV×List AB):T LV:=t.bind λq=> .ok q.1
def Xk (P:aWt) (G:B5) (Γ:aWR) (tr:aWj) (F:aWf) (Hm:aWi) (o:aWw):T LV:=
 if isSp P o || !sI G F tr o then .no
 else if Wq o then Ql (aLo<|Ax P G Γ F Hm o)
 else aLo (Ax P G Γ F Hm o)
def I6 (P:aWt) (G:B5) (Γ:aWR) (ops:aWm) (tr:aWj) (H Hm:aWi):aWH->aWL->aWf->T (List LV×List AB)
 | f::fs,o::os,F=>
  if f then I6 P G Γ ops tr H Hm fs os F else
  let go (F:aWf):T (List LV×List AB):=(Xk P G Γ tr F Hm o).bind λy=>I6 P G Γ ops tr H Hm fs os<|Av F o.dst y
  let pass (F:aWf):T (List LV×List AB):=I6 P G Γ ops tr H Hm fs os<|Av F o.dst<|.v undef
  match o.guard with
  |none=>go F
  | some (j,want)=>match (ops[j]?).bind (·.dst) with
   |some d=>match F.getD d .junk with
    | .bl b=>if b=want then go F else pass F
    | .v (.bool g)=>if want then .br g (go<|F.set d<|.bl U) (pass<|F.set d<|.bl X) else .br g (pass<|F.set d<|.bl U) (go<|F.set d<|.bl X)
    | .v (.tuple _)=>pass F
    |_=> .no
   |none=> .no
 |_,_,F=> .ok (F,H)
def Eu (G:B5) (F:aWf) (o:aWw):aWj:=
 match o.op with
 | .store _ x _=>owns (AL G F x)
 | .insert _ x _ _=>owns (AL G F x)
 | .mapUpdate _ x _ _=>owns (AL G F x)
 | .call {callee:=.builtin .append,args,..}=>match args.toList.map (AL G F) with
  |x::_=>owns x
  | []=>[]
 | .call {callee:=.builtin .copy,args,..}=>match args.toList.map (AL G F) with
  |x::_=>owns x
  | []=>[]
 |_=>[]
def CM (G:B5) (F:aWf) (tr:aWj) (n0:aWe) (o:aWw):aWo:=(Eu G F o).all λk=>tr.contains k ||an (n0<=k)
def p2x (P:aWt) (G:B5) (Γ:aWR) (ops:aWm) (tr:aWj) (n0:aWe):aWH->aWL->aWf->aWi->T (List LV×List AB)
 | f ::fs,o::os,F,H=>
  if f then
   let go (F:aWf):T (List LV×List AB):=if CM G F tr n0 o then (Ax P G Γ F H o).bind λq=>p2x P G Γ ops tr n0 fs os (Av F o.dst q.1) q.2 else .no
   let pass (F:aWf):T (List LV×List AB):=p2x P G Γ ops tr n0 fs os (Av F o.dst<|.v undef) H
   match o.guard with
   |none=>go F
   | some (j,want)=>match (ops[j]?).bind (·.dst) with
    |some d=>match F.getD d .junk with
     | .bl b=>if b=want then go F else pass F
     | .v (.bool g)=>if want then .br g (go<|F.set d<|.bl U) (pass<|F.set d<|.bl X) else .br g (pass<|F.set d<|.bl U) (go<|F.set d<|.bl X)
     | .v (.tuple _)=>pass F
     |_=> .no
    |none=> .no
  else p2x P G Γ ops tr n0 fs os F H
 |_,_,F,H=> .ok (F,H)
def IZ (o:aWw):aWo:=
 match o.op with
 | .buildSlice ..=>U
 | .call {callee:=.value _,..}=>U
 |_=>X
def Es (o:aWw):aWo:=
 match o.op with
 | .alloc _=>U
 | .box ..=>U
 | .makeSlice ..=>U
 | .buildSlice _ len parts=>(len==0)&&parts.toList.isEmpty
 |_=>X
def Mw (o:aWw):aWo:=
 match o.op with
 | .alloc _=>U
 | .box ..=>U
 | .load ..=>U
 |_=>X
def Ii (P:aWt) (G:B5) (Γ:aWR) (F:aWf) (o:aWw):T LV:=
 match o.op with
 | .buildSlice t len parts=>if aPz Γ t then .no else if noOwnL ((parts.toList.map λq=>(q.1,AL G F q.2)).map (·.2)) then L7 P t len (parts.toList.map λq=>(q.1,AL G F q.2)) else .no
 | .call {callee:=.value f,args,..}=>match AL G F f with
  | .fn g cap=>match P.funcs[g]? with
   | some fn=>if fn.body.isSome&&!(fn.name== "runtime.NumGoroutine") then
     match Γ g with
     |some S=>if noOwnL (args.toList.map (λx=>norm<|AL G F x)++cap) then S (args.toList.map (λx=>norm<|AL G F x)++cap) else .no
     |none=> .no
    else .no
   |none=> .no
  |_=> .no
 |_=> .no
def aWa (o:aWw):aWj:=(o.after.toList.filter<|Region.binds .any).map (·.on)
def aLs:List (List Nat)->aWL->List (List Nat)
 |acc,[]=>acc
 |acc,o::os=>aLs (acc++[(aWa o++(aWa o).flatMap (λk=>acc.getD k [])).eraseDups]) os
def akN (A:List<|List Nat) (n i:aWe):aWo:=(au n).all λj=>j==i ||(A.getD i []).contains j ||(A.getD j []).contains i
def FK (ops:aWm) (i:aWe) (o:aWw):aWo:=IZ o&&!akN (aLs [] ops.toList) ops.size i
def G3 (P:aWt) (G:B5) (Γ:aWR) (ops:aWm) (i:aWe) (F:aWf) (H:aWi) (o:aWw):T (LV×List AB):=
 if FK ops i o then (Ii P G Γ F o).bind λy=> .ok (y,H) else Ax P G Γ F H o
def Fj (P:aWt) (G:B5) (Γ:aWR) (ops:aWm) (tr:aWj) (n0:aWe):aWj->aWf->aWi->T (List LV×List AB)
 | [],F,H=> .ok (F,H)
 |i::is,F,H=>match ops[i]? with
  |some o=>if o.guard.isNone&&CM G F tr n0 o then (G3 P G Γ ops i F H o).bind λq=>Fj P G Γ ops tr n0 is (Av F o.dst q.1) q.2 else .no
  |none=> .no
def JK (o:aWw):aWo:=
 match o.op with
 | .move _=>U
 | .assign _=>U
 | .indexAddr ..=>U
 | .fieldAddr ..=>U
 | .build ..=>U
 | .extract ..=>U
 | .call {callee:=.builtin .max,..}=>U
 | .call {callee:=.builtin .min,..}=>U
 | .binOp op _ _ _ _=>(match op with
  | .add=>U
  | .sub=>U
  | .mul=>U
  |_=>X)
 |_=>X
def K3 (o:aWw):aWo:=
 match o.op with
 | .load ..=>U
 |_=>X
def j5 (o:aWw):aWo:=
 match o.op with
 | .store ..=>U
 | .alloc _=>U
 | .box ..=>U
 |_=>X
def Lq (o:aWw):aWo:=
 match o.op with
 | .call {callee:=.builtin .append,..}=>U
 |_=>X
def R7 (ops:aWm) (i j:aWe):aWo:=
 match ops[i]?,ops[j]? with
 |some x,ah y=>x.guard.isNone&&y.guard.isNone&&((Mw x&&FK ops j y) ||(FK ops i x&&Mw y) ||(FK ops i x&&FK ops j y) ||((JK x ||K3 x)&&(JK y ||K3 y)) ||(JK x&&j5 y) ||(j5 x&&JK y) ||(FK ops i x&&Lq y) ||(Lq x&&FK ops j y))&&x.apart ops y
 |_,_=>X
def G1 (i:aWe):aWj->List Nat
 | []=>[]
 |j::js=>if j=i then [] else j::G1 i js
def Ls (ops:aWm):aWe->aWj->aWy->Bool
 |0,R,listed=>R.isEmpty&&(ay .any ops listed).isEmpty
 |n+1,R,listed=>!(ay .any ops listed).isEmpty&&(ay .any ops listed).all λi=>R.contains i&&(G1 i R).all (λj=>R7 ops i j)&&Ls ops n (R.erase i) (listed.setIfInBounds i U)
def preB (ops:aWm) (i p:aWe):aWo:=
 match ops[i]? with
 |some o=>o.after.toList.any λe=>Region.binds .any e&&e.on==p
 |none=>X
def iX (ops:aWm) (R:aWj):aWe->aWe->aWe->Bool
 |0,i,j=>preB ops i j
 |n+1,i,j=>preB ops i j ||R.any λp=>preB ops i p&&iX ops R n p j
def gO (ops:aWm) (R0:aWj):aWj->Bool
 | []=>U
 |j::R=>R.all (λi=>R7 ops i j ||iX ops R0 4 i j)&&gO ops R0 R
def aa7 (ops:aWm) (R:aWj) (listed:aWy):aWo:=R.all λi=>
 match ops[i]? with
 |some o=>o.after.toList.all λe=>!Region.binds .any e ||(listed.getD e.on X ||(G1 i R).contains e.on)
 |none=>X
def nf:aWj->Bool
 | []=>U
 |x::l=>!l.contains x&&nf l
def nR (ops:aWm) (R:aWj) (listed:aWy):aWo:=
 nf R&&(listed.size==ops.size&&((au ops.size).all (λi=>R.contains i==!listed.getD i U)&&(R.all (λi=>an<|i<ops.size)&&(gO ops R R&&aa7 ops R listed))))
def X1 (ops:aWm) (flags:aWH):aWo:=letI a:=TS (idxs X flags 0)<|Array.replicate ops.size X;letI b:=idxs U flags 0;Tc ops flags&&(nR ops b a ||Ls ops (M b) b a)
def GG:AB:=⟨[],0,.dead,X⟩
def JQ (P:aWt) (G:B5) (F:aWf) (H:aWi) (k:aWe) (o:aWw):T (LV×List AB):=
 match o.op with
 | .alloc t=>match IV P t with
  |some z=>match CN (.v z) with
   |some cs=> .ok (.own k 0,H.set k ⟨cs,t,.cl,X⟩)
   |none=> .no
  |none=> .no
 | .box t x=>match CN (AL G F x) with
  |some cs=> .ok (.own k 0,H.set k ⟨cs,t,.cl,X⟩)
  |none=> .no
 | .makeSlice t n c=>match PF P t,pl<|AL G F n,pl (AL G F c) with
  | some (e,ty,m,FM),ah (ag J n),ah (ag J c)=>match IV P e with
   |some z=>match Jz ty (z.cells.toList.map .v) with
    |some d=>if z.cells.size=m then .req (0<=n/\n<=c/\FM*c<=2^48/\c<2^63) (.ok (.os k m 0 n.toNat,H.set k ⟨[],e,.vec ty<|aq n.toNat d,X⟩)) else .no
    |none=> .no
   |none=> .no
  |_,_,_=> .no
 | .buildSlice t len parts=>if len=0 then (if parts.toList.isEmpty then (match PF P t with
  |some (e,ty,m,_)=> .ok (.os k m 0 0,H.set k ⟨[],e,.vec ty [],X⟩)
  |none=> .no) else .no) else .no
 |_=> .no
def aog (ops:aWm) (t:Tmp):aWG:=(au ops.size).find? λi=>match ops[i]? with
 |some o=>o.dst==ah t
 |none=>X
def apD (ops:aWm) (o:aWw):aWG:=
 match o.op with
 | .call {callee:=.builtin .append,args,..}=>(match args.toList with
  | .tmp t::_=>aog ops t
  |_=>aj)
 |_=>aj
def apK (d n0:aWe):aWf->Bool
 | [.os k _ _ _,.xl _ _]=>k==n0+d
 |_=>X
def L4 (G:B5) (ops:aWm) (n0:aWe) (F:aWf) (H:aWi) (o:aWw):aWo:=
 match o.op with
 | .call {callee:=.builtin .append,args,..}=>(match apD ops o with
  |some d=>an (n0+ops.size<=M H)&&apK d n0 (args.toList.map<|AL G F)
  |none=>X)
 |_=>X
def Py (o:aWw):aWo:=
 match o.op with
 | .store ..=>U
 | .move _=>U
 | .assign _=>U
 | .build ..=>U
 |_=>X
def I7 (P:aWt) (G:B5) (Γ:aWR) (ops:aWm) (n0 i:aWe) (F:aWf) (H:aWi) (o:aWw):T (LV×List AB):=
 if Es o then JQ P G F H (n0+i) o else if Py o then Ax P G Γ F H o else if L4 G ops n0 F H o then Ax P G Γ F H o else .no
def G8 (P:aWt) (G:B5) (Γ:aWR) (ops:aWm) (tr:aWj) (n0:aWe):aWj->aWf->aWi->T (List LV×List AB)
 | [],F,H=> .ok (F,H)
 |i::is,F,H=>match ops[i]? with
  |some o=>if o.guard.isNone&&CM G F tr n0 o then (I7 P G Γ ops n0 i F H o).bind λq=>G8 P G Γ ops tr n0 is (Av F o.dst q.1) q.2 else .no
  |none=> .no
def JL (o:aWw):aWo:=
 match o.op with
 | .move _=>U
 | .assign _=>U
 | .build ..=>U
 |_=>X
def jS (ops:aWm) (i j:aWe):aWo:=
 match ops[i]?,ops[j]? with
 |some x,ah y=>!(i==j)&&x.guard.isNone&&y.guard.isNone&&(((Es x ||JL x)&&(Es y ||JL y)) ||((Es x ||JL x)&&(Lq y&&!(apD ops y==ah i))) ||((Lq x&&!(apD ops x==ah j))&&(Es y ||JL y)))&&x.apart ops y
 |_,_=>X
def bY (ops:aWm):aWe->aWj->aWy->Bool
 |0,R,listed=>R.isEmpty&&(ay .any ops listed).isEmpty
 |n+1,R,listed=>!(ay .any ops listed).isEmpty&&(ay .any ops listed).all λi=>R.contains i&&(G1 i R).all (λj=>jS ops i j)&&bY ops n (R.erase i) (listed.setIfInBounds i U)
def Ox:aWj->Bool
 | []=>U
 |k::ks=>!ks.contains k&&Ox ks
def alx (ops:aWm) (flags:aWH):aWo:=letI a:=idxs U flags 0;Tc ops flags&&Ox a&&a.all (λi=>an<|i<ops.size)&&bY ops (M a) a (TS (idxs X flags 0)<|Array.replicate ops.size X)
def pux (P:aWt) (G:B5) (Γ:aWR) (F:aWf) (o:aWw):T LV:=
 match o.op with
 | .move x=> .ok (AL G F x)
 | .assign x=> .ok (AL G F x)
 | .pick c a b=>iY (AL G F c) (AL G F a) (AL G F b)
 | .load t x=>(match AL G F x with
  | .xq m f=>FY P [] t (.xq m f)
  |_=> .no)
 | .fieldAddr s x i=>X2 P s (AL G F x) i
 | .indexAddr t x i=>Ta P t (AL G F x) (Uv<|AL G F i) (AL G F i)
 | .build t parts=>Nc P t (parts.toList.map λq=>(q.1,Hx G F q.2))
 | .buildSlice ..=>Ii P G Γ F o
 | .call {callee:=.value _,..}=>Ii P G Γ F o
 | .unOp ..=>Dk P G F o
 | .binOp op _ _ _ _=>(match op with
  | .quo=> .no
  | .rem=> .no
  | .shl=> .no
  | .shr=> .no
  |_=>Dk P G F o)
 |_=> .no
def aAn (G:B5) (F:aWf) (o:aWw):aWo:=
 match o.op with
 | .load _ x=>(match AL G F x with
  | .own _ _=>U
  |_=>X)
 |_=>U
def spz (P:aWt) (G:B5) (Γ:aWR) (F:aWf) (H:aWi) (o:aWw):T (LV×List AB):=if aAn G F o then Ax P G Γ F H o else .no
def HC (P:aWt) (G:B5) (Γ:aWR) (ops:aWm) (tr:aWj) (n0:aWe):aWj->aWf->aWi->T (List LV×List AB)
 | [],F,H=> .ok (F,H)
 |i::is,F,H=>match ops[i]? with
  |some o=>if o.guard.isNone&&CM G F tr n0 o then (spz P G Γ F H o).bind λq=>HC P G Γ ops tr n0 is (Av F o.dst q.1) q.2 else .no
  |none=> .no
def Uw (P:aWt) (o:aWw):aWo:=
 match o.op with
 | .call {callee:=.builtin .append,..}=>U
 | .buildSlice t len _=>an (len=0) ||dS P t
 |_=>X
def jR (P:aWt) (ops:aWm) (i j:aWe):aWo:=
 match ops[i]?,ops[j]? with
 |some x,ah y=>x.guard.isNone&&y.guard.isNone&&(K3 x&&Uw P y)&&x.apart ops y
 |_,_=>X
def bX (P:aWt) (ops:aWm):aWe->aWj->aWy->Bool
 |0,R,listed=>R.isEmpty&&(ay .any ops listed).isEmpty
 |n+1,R,listed=>!(ay .any ops listed).isEmpty&&(ay .any ops listed).all λi=>R.contains i&&(G1 i R).all (λj=>jR P ops i j)&&bX P ops n (R.erase i) (listed.setIfInBounds i U)
def aIa (ops:aWm) (i:aWe):aWj->List Nat
 | []=>[i]
 |j::js=>if preB ops j i then i::j::js else j::aIa ops i js
def UE (ops:aWm):aWj->List Nat
 | []=>[]
 |i::is=>if (ops[i]?).any K3 then aIa ops i (UE ops is) else i::UE ops is
def gw (P:aWt) (ops:aWm) (flags:aWH):aWo:=letI a:=idxs U flags 0;Tc ops flags&&((UE ops a).all (λi=>flags.getD i X)&&bX P ops (M a) (UE ops a) (TS (idxs X flags 0)<|Array.replicate ops.size X))
def jP (P:aWt) (G:B5) (Γ:aWR) (ops:aWm) (F:aWf) (H:aWi):T (List LV×List AB):=
 let tr:=tracked H ops.toList F
 let flags:=dY (λo=>isSp P o ||aoU H ops.toList F tr o) [] ops.toList
 if jT ops flags&&P.follows .mixedOrders&&tr.all (λk=>an<|k<M H) then
  (Kb (Fc ops.toList) F H<|I6 P G Γ ops tr H (Eo tr 0 H) flags ops.toList F).bind λq=>p2x P G Γ ops tr (M H) flags ops.toList q.1 H
 else if (X1 ops flags ||gw P ops flags)&&P.follows .mixedOrders&&tr.all (λk=>an<|k<M H) then
  (Kb (Fc ops.toList) F H<|I6 P G Γ ops tr H (Eo tr 0 H) flags ops.toList F).bind λq=>if X1 ops flags then Fj P G Γ ops tr (M H) (idxs U flags 0) q.1 H else HC P G Γ ops tr (M H) (UE ops<|idxs U flags 0) q.1 H
 else if alx ops flags&&P.follows .mixedOrders&&tr.all (λk=>an<|k<M H) then
  (Kb (Fc ops.toList) F H<|I6 P G Γ ops tr H (Eo tr 0 H) flags ops.toList F).bind λq=>G8 P G Γ ops tr (M H) (idxs U flags 0) q.1<|H++aq ops.size GG
 else .no
def aI8 (ops:aWL) (s:aWe):aWe:=
 match ops.find? (λo=>o.dst==ah s) with
 |some o=>match o.op with
  | .move (.tmp y)=>y
  |_=>s
 |none=>s
def isApp (o:aWw):aWo:=
 match o.op with
 | .call {callee:=.builtin .append,..}=>U
 |_=>X
def rK (P:aWt) (ops:aWL) (F:aWf):Option (Nat×IntKind×Int×Nat):=
 if ops.any isApp then
  ops.findSome? λo=>match o.op with
   | .indexAddr t _ (.tmp s)=>match P.underlying t with
    |some (.array len e)=>match P.underlying e,F.getD (aI8 ops s) .junk with
     |some (.slice _),.v (ag k n)=>ah (aI8 ops s,k,n,len)
     |_,_=>aj
    |_=>aj
   |_=>aj
 else aj
def splitN {α:Type}(f:aWe->T α) (n:Y):aWe->aWe->T α
 |0,_=> .no
 |1,j=>f j
 |m+2,j=> .br (n==(j:Y)) (f j)<|splitN f n (m+1)<|j+1
def Xh (P:aWt) (G:B5) (Γ:aWR) (ops:aWm) (F:aWf) (H:aWi):T (List LV×List AB):=
 match rK P ops.toList F with
 |some (s,k,n,len)=> .req (0<=n/\n<(len:Y)) (splitN (λj=>jP P G Γ ops (F.set s<|.ki k j) H) n len 0)
 |none=>jP P G Γ ops F H
def pw (G:B5) (Γ:aWR) (ops:aWm):Option Oper:=
 match ops.back? with
 | some o=>match callOf G [] o with
  |some (g,_)=>match Γ g with
   |some _=>aj
   |none=>if lastB .any ops.pop o then ah o else aj
  |none=>aj
 |none=>aj
def jQ (P:aWt) (G:B5) (Γ:aWR) (K:aW5) (ops:aWm) (F:aWf) (H:aWi):T (List LV×List AB):=
 match pw G Γ ops with
 |some o=>(Xh P G Γ ops.pop F H).bind λq=>(KB P G Γ K q.1 q.2 o).bind λq2=> .ok (Av q.1 o.dst q2.1,q2.2)
 |none=>Xh P G Γ ops F H
def hwx (P:aWt) (G:B5) (Γ:aWR) (F:aWf) (H:aWi) (o:aWw):T LV:=
 match o.op with
 | .call _=>Ii P G Γ F o
 | .move x=> .ok (AL G F x)
 | .assign x=> .ok (AL G F x)
 | .load t x=>FY P H t (AL G F x)
 | .fieldAddr s x i=>X2 P s (AL G F x) i
 | .nilCheck x=>match AL G F x with
  | .own k off=> .ok (.own k off)
  | .op k es i j=> .ok (.op k es i j)
  | .xq n f=> .ok (.xq n f)
  |_=> .no
 | .binOp op _ _ _ _=>match op with
  | .add=>Dk P G F o
  | .sub=>Dk P G F o
  | .mul=>Dk P G F o
  |_=> .no
 |_=> .no
def aPy (G:B5) (Γ:aWR) (ops:aWm):aWG:=(au ops.size).find? λi=>
 match ops[i]? with
 |some o=>(match callOf G [] o with
  |some (g,_)=>(Γ g).isNone
  |none=>X)
 |none=>X
def OK (ops:aWm) (i:aWe):aWj:=
 match ops[i]? with
 |some o=>(o.after.toList.filter<|Region.binds .any).map (·.on)
 |none=>[]
def Gr (ops:aWm) (i:aWe):aWj:=UB .any ops ops.size<|OK ops i
def G0 (ops:aWm) (i:aWe):aWQ:=(ops[i]?).bind (·.dst)
def NS (ops:aWm) (i:aWe):List Tmp:=
 match ops[i]? with
 |some o=>o.looksAt ops
 |none=>[]
def Qr (ops:aWm) (w:aWe):aWj:=(au ops.size).filter λi=>!(i==w)&&!(Gr ops i).contains w
def allA (ops:aWm) (w i:aWe):aWo:=(Qr ops w).all λj=>(Gr ops i).contains j
def R4 (ops:aWm) (w:aWe):aWj:=(au ops.size).filter λi=>!(i==w)&&((Gr ops i).contains w&&!allA ops w i)
def Jr (ops:aWm) (w:aWe):aWj:=(au ops.size).filter λi=>!(i==w)&&((Gr ops i).contains w&&allA ops w i)
def iZ (ops:aWm) (w:aWe):aWj:=Qr ops w++([w]++R4 ops w)
def abQ (ops:aWm) (i j:aWe):aWo:=
 match G0 ops j with
 |some d=>(i==j || !(G0 ops i==ah d))&&(!(NS ops i).contains d ||(!(i==j)&&an (j<i)&&(Gr ops i).contains j))
 |none=>X
def aRu (ops:aWm) (i j:aWe):aWo:=
 match G0 ops j with
 |some d=>!(NS ops i).contains d
 |none=>X
def okW (ops:aWm) (w n:aWe):aWo:=
 let AW:=iZ ops w
 AW.all (λi=>(match ops[i]? with|some o=>o.guard.isNone|none=>X)&&(match G0 ops i with|some d=>an (d<n) |none=>X)&&
  (OK ops i).all (λp=>an (p<i)&&AW.contains p)&&AW.all (λj=>abQ ops i j))&&
 ((Jr ops w).all (λb=>AW.all λi=>(Gr ops b).contains i)&&(Qr ops w++[w]).all λi=>([w]++R4 ops w).all λj=>aRu ops i j)
def goW (P:aWt) (G:B5) (Γ:aWR) (ops:aWm) (H:aWi):aWj->aWf->T (List LV)
 | [],F=> .ok F
 |i::is,F=>match ops[i]? with
  |some o=>(hwx P G Γ F H o).bind λy=>goW P G Γ ops H is (Av F o.dst y)
  |none=> .no
def bg (P:aWt) (G:B5) (Γ:aWR) (ops:aWm) (H:aWi) (F:aWf):aWj->T Unit
 | []=> .ok ()
 | i::is=>match ops[i]? with
  |some o=>(match o.op with
   | .load _ _=>(hwx P G Γ F H o).bind λy=> .req (y=(match o.dst with|some d=>F.getD d .junk|none=> .junk)) (bg P G Γ ops H F is)
   |_=>bg P G Γ ops H F is)
  |none=> .no
def KY (ops:aWm) (w:aWe):aWy:=((au ops.size).map λi=>(iZ ops w).contains i).toArray
def aa8 (ops:aWm):aWe->aWy->List Nat
 |0,_=>[]
 |n+1,l=>match ay .any ops l with
  | []=>[]
  |i::_=>i::aa8 ops n (l.setIfInBounds i U)
def JJ (ops:aWm) (w:aWe):aWj:=aa8 ops (M<|Jr ops w)<|KY ops w
def aBN (P:aWt) (G:B5) (Γ:aWR) (K:aW5) (ops:aWm) (w:aWe) (F:aWf) (H:aWi):T (List LV×List AB):=
 if okW ops w (M F)&&P.follows .mixedOrders&&(M (JJ ops w)==M (Jr ops w))&&(nR ops (JJ ops w) (KY ops w) ||Ls ops (M<|JJ ops w) (JJ ops w) (KY ops w)) then
  match ops[w]? with
  |some o=>(goW P G Γ ops H (Qr ops w) F).bind λF1=>(KB P G Γ K F1 H o).bind λq=>(bg P G Γ ops q.2 F1<|(Qr ops w).filter λi=>!(Gr ops w).contains i).bind λ_=>(goW P G Γ ops q.2 (R4 ops w)<|Av F1 o.dst q.1).bind λF3=>Fj P G Γ ops [] (M q.2) (JJ ops w) F3 q.2
  |none=> .no
 else .no
def aBM (P:aWt) (G:B5) (Γ:aWR) (K:aW5) (ops:aWm) (F:aWf) (H:aWi):T (List LV×List AB):=
 match pw G Γ ops with
 |some _=>jQ P G Γ K ops F H
 |none=>match aPy G Γ ops with
  |some w=>aBN P G Γ K ops w F H
  |none=>jQ P G Γ K ops F H
def Gp:aWO->Nat
 | .region id _ _=>id
 | .seq a _=>Gp a
 | .block _ b=>Gp b
 | .loop b=>Gp b
 | .cond _ a _=>Gp a
 |_=>0
abbrev Lg:=Nat->aWf->aWi->T (Ex×List LV×List AB)
abbrev PZ:=Code->aWf->aWi->T (Ex×List LV×List AB)
def Lx (L:Lg):PZ:=λb=>L<|Gp b
def uv:aW6->Option Ex
 |some ⟨_,_,.Cl _ _ _ .ready,X⟩=>ah .normal
 |some ⟨_,_,.Cl _ _ _ (.done x),X⟩=>match x with
  | .normal=>aj
  |x=>ah x
 |_=>aj
def aCu:aWS->List Nat
 | .tmp t=>[t]
 |_=>[]
def Gv:aWO->List Nat
 | .region _ ops _=>ops.toList.flatMap λo=>o.op.operands.toList.flatMap aCu
 | .seq a b=>Gv a++Gv b
 | .cond c a b=>aCu c++Gv a++Gv b
 | .block _ b=>Gv b
 | .loop b=>Gv b
 | .rangeFunc f _ a b=>aCu f++Gv a++Gv b
 | .scope b=>Gv b
 |_=>[]
def PH (us:aWj) (F:aWf):aWf:=(au<|M F).map λi=>if us.contains i then F.getD i .junk else .junk
def DN (P:aWt) (G:B5) (Γ:aWR) (K:aW5) (L:PZ):aWO->aWf->aWi->T (Ex×List LV×List AB)
 | .skip,F,H=> .ok (.normal,F,H)
 | .ret,F,H=> .ok (.ret,F,H)
 | .exit n,F,H=> .ok (.exit n,F,H)
 | .region _ ops d,F,H=>(if d then aBM P G Γ K ops F H else aD2 P G Γ K ops F H).bind λq=> .ok (.normal,q.1,q.2)
 | .seq a b,F,H=>(DN P G Γ K L a F H).bind λq=>match q.1 with
  | .normal=>DN P G Γ K L b q.2.1 q.2.2
  |x=> .ok (x,q.2)
 | .cond c a b,F,H=>match c with
  | .tmp d=>match F.getD d .junk with
   | .bl U=>DN P G Γ K L a F H
   | .bl X=>DN P G Γ K L b F H
   | .v (.bool g)=> .br g (DN P G Γ K L a (F.set d<|.bl U) H) (DN P G Γ K L b (F.set d<|.bl X) H)
   |_=> .no
  | .const (.bool U)=>DN P G Γ K L a F H
  | .const (.bool X)=>DN P G Γ K L b F H
  |_=> .no
 | .block id a,F,H=>(DN P G Γ K L a F H).bind λq=>match q.1 with
  | .exit n=>if n=id then .ok (.normal,q.2) else .ok (.exit n,q.2)
  |x=> .ok (x,q.2)
 | .loop a,F,H=>L a F H
 | .scope a,F,H=>DN P G Γ K L a F H
 | .label _,F,H=> .ok (.normal,F,H)
 | .rangeFunc f ps asg body,F,H=>match AL G F f with
  | .fn g cap=>match P.funcs[g]? with
   | some fn=>if fn.body.isSome&&!(fn.name== "runtime.NumGoroutine") then
     (K.k g (.CO H.length::cap)<|H++[⟨PH (Gv asg++Gv body) F,0,.Cl ps asg body .ready,X⟩]).bind λq=>match uv q.2[H.length]? with
      |some x=> .ok (x,F,q.2.set H.length ⟨[],0,.dead,X⟩)
      |none=> .no
    else .no
   |none=> .no
  |_=> .no
 |_,_,_=> .no
def S6 (P:aWt) (fn:aWX) (F:aWf) (H:aWi):aXi->T (List LV)
 | []=> .ok []
 | .tmp t::rs=>(S6 P fn F H rs).bind λl=> .ok (norm (F.getD t .junk)::l)
 | .cell a t::rs=>(FY P H t<|F.getD a .junk).bind λy=>(S6 P fn F H rs).bind λl=> .ok (y::l)
def one (l:aWf):LV:=match l with| [x]=>x|l=>R2 l
def wP (P:aWt) (fn:aWX) (t:aWf->aWi->T (Ex×List LV×List AB)) (args:aWf):T LV:=
 (t (args++aq (fn.ntmps-M args) (.v undef)) []).bind λq=>match q.1 with
  | .exit _=> .no
  |_=>(S6 P fn q.2.1 q.2.2 fn.results.toList).bind λl=>if noOwn (one l) then .ok (one l) else (EZ q.2.2 8<|one l).bind λ_=> .ok<|C1 q.2.2 8<|one l
def wU (P:aWt) (G:B5) (Γ:aWR) (K:aW5) (L:Lg) (fn:aWX) (args:aWf):T LV:=
 match fn.body with
 |some c=>wP P fn (DN P G Γ K (Lx L) c) args
 |none=> .no
def DL:List (FuncId×(List LV->T LV))->Specs
 | [],_=>aj
 |p::ps,g=>if g=p.1 then ah p.2 else DL ps g
def Ak:Lg:=λ_ _ _=> .no
def fL:PZ:=λ_ _ _=> .no
def I3:aWO->Bool
 | .seq a b=>I3 a&&I3 b
 | .cond _ a b=>I3 a&&I3 b
 | .block _ b=>I3 b
 | .loop b=>I3 b
 | .rangeFunc ..=>X
 | .scope b=>I3 b
 |_=>U
def tO (t:aWf->aWi->T (Ex×List LV×List AB)):aWe->aWf->aWi->T (Ex×List LV×List AB)
 |0,_,_=> .no
 |m+1,F,H=>(t F H).bind λq=>match q.1 with
  | .normal=>tO t m q.2.1 q.2.2
  |x=> .ok (x,q.2)
def JG (P:aWt) (G:B5) (Γ:aWR) (K:aW5) (m:aWe):aWe->PZ
 |0=>fL
 |d+1=>λb=>tO (DN P G Γ K (JG P G Γ K m d) b) m
def Xg (F:aWf):List Tmp->aWf->List LV
 |t::ts,x::xs=>Xg (F.set t x) ts xs
 |_,_=>F
abbrev DS:=Hand->aWF->aWe->PZ
def Ep (P:aWt) (G:B5) (Γ:aWR) (LL:DS) (K:aW5):aW5:=
 ⟨λg args H=>match P.funcs[g]? with
  | some fn=>match fn.body with
   |some c=>(DN P G Γ K (LL K g<|M H) c (args++aq (fn.ntmps-M args) (.v undef)) H).bind λq=>match q.1 with
    | .exit _=> .no
    |_=>(S6 P fn q.2.1 q.2.2 fn.results.toList).bind λl=> .ok (one l,q.2.2)
   |none=> .no
  |none=> .no,
  λk args H=>match H[k]? with
  | some ⟨F,t,.Cl ps asg body .ready,X⟩=>if M args=ps.size/\I3 asg=U/\I3 body=U then
    (DN P G Γ K fL asg (Xg F ps.toList args) H).bind λ(q:Ex×List LV×List AB)=>match q.1 with
     | .normal=>(match q.2.2[k]? with
      | some ⟨F1,_,.Cl ps1 asg1 body1 .ready,X⟩=>(DN P G Γ K (JG P G Γ K 20 2) body q.2.1<|q.2.2.set k ⟨F1,t,.Cl ps1 asg1 body1 .busy,X⟩).bind λ(r:Ex×List LV×List AB)=>match r.2.2[k]? with
       |some ⟨F2,_,.Cl ps2 asg2 body2 .busy,X⟩=>(match r.1 with
        | .normal=> .ok (.bl U,r.2.2.set k ⟨F2,t,.Cl ps2 asg2 body2 .ready,X⟩)
        |x=> .ok (.bl X,r.2.2.set k ⟨F2,t,.Cl ps2 asg2 body2<|.done x,X⟩))
       |_=> .no
      |_=> .no)
     |_=> .no
   else .no
  |_=> .no⟩
def inl (P:aWt) (G:B5) (Γ:aWR) (LL:DS):aWe->Hand
 |0=>G9
 |d+1=>Ep P G Γ LL<|inl P G Γ LL d
abbrev Does:=FuncId->Option (List LV->aWi->T (LV×List AB))
def Uy (P:aWt) (G:B5) (Γ:aWR) (LL:DS) (C:Does):aWe->Hand
 |0=>G9
 |d+1=>⟨λg args H=>match C g with
  |some m=>m args H
  |none=>(Ep P G Γ LL<|Uy P G Γ LL C d).k g args H,(Ep P G Γ LL<|Uy P G Γ LL C d).y⟩
structure Gz where
 z:aWe->Prop
 gh:List (LV×Value)
 Cr:aWj
variable {P : Program} {G : B5} {Γ : Specs} {β : Nat -> Loc} {Z : Nat -> Prop} {Z0 : Gz} {w w0 : World} {F : List LV} {H : List AB} {a : Act} {ds : List Deferred}
def Ck {x:LV}{y z:aWx}(h:pl x=ah y) (hr:R β Z w x z):z=y:=by
 cases x with
 |v q=>simp only [pl,Ai] at h;simp only [R] at hr;rw [hr,h]
 |bl b=>simp only [pl,Ai] at h;simp only [R] at hr;rw [hr,h]
 |ki k n=>simp only [pl,Ai] at h;simp only [R] at hr;rw [hr,h]
 | fn f l=>
  cases l with
  |nil=>
   simp only [pl,Ai] at h;simp only [R,RL] at hr;obtain ⟨ys,h1,h2⟩:=hr
   have:ys=#[]:=A8
   grind
  |cons _ _=>simp [pl] at h
 |_=>simp [pl] at h
def aLv {x:LV}{y:aWx}(h:pl x=ah y):R β Z w x y:=by
 cases x with
 |v q=>simp only [pl,Ai] at h;simp only [R];exact h.symm
 |bl b=>simp only [pl,Ai] at h;simp only [R];exact h.symm
 |ki k n=>simp only [pl,Ai] at h;simp only [R];exact h.symm
 |fn f l=>
  cases l with
  |nil=>simp only [pl,Ai] at h;simp only [R,RL];exact ⟨#[],h.symm,rfl⟩
  |cons _ _=>simp [pl] at h
 |_=>simp [pl] at h
def aQx:∀ {l:aWf}{ys zs:aWv},B2 l=ah ys->RL β Z w l zs->zs=ys
 | [],ys,zs,h,hr=>by simp only [B2,Ai] at h;simp only [RL] at hr;rw [hr,h]
 | x::xs,ys,zs,h,hr=>by
  simp only [B2] at h;split at h
  ·rename_i y ys' h1 h2
   simp only [Ai] at h;obtain ⟨y',zs',e1,e2,e3⟩:=hr;rw [e1,Ck h1 e2,aQx h2 e3,h]
  ·cases h
def Ow {x:LV}{y:aWx}(h:R β Z w x y):R β Z w (norm x) y:=yT
def TE {n:aWe}{x:LV}(h:okV n x):okV n (norm x):=yT
def aFa:∀ {l:aWf}{ys:aWv},RL β Z w l ys->RL β Z w (l.map norm) ys
 | [],_,h=>A8
 |x::xs,ys,h=>by
  obtain ⟨y,zs,h1,h2,h3⟩:=h;exact ⟨y,zs,h1,Ow h2,aFa h3⟩
def qP {n:aWe}:∀ {l:aWf},AT n l->AT n (l.map norm)
 | [],_=>trivial
 |x::xs,h=>by
  exact ⟨TE h.1,qP h.2⟩
def W9 {l:aWf}{ys:aWz}(h:RL β Z w l ys.toList):R β Z w (Ju l) (.agg ys):=by
 unfold Ju;exact aNN
def rS {l:aWf}{ys:aWz}(h:RL β Z w l ys.toList):R β Z w (R2 l) (.tuple ys):=by
 unfold R2;exact aNN
def QT {n:aWe}{l:aWf}(h:AT n l):okV n (Ju l):=by
 unfold Ju;split
 ·trivial
 ·simpa only [okV] using qP h
def qS {n:aWe}{l:aWf}(h:AT n l):okV n (R2 l):=by
 unfold R2;split
 ·trivial
 ·simpa only [okV] using qP h
def Td (n:aWe):∀(l:aWv),AT n (l.map .v)
 | []=>trivial
 |_::xs=>⟨ak,Td n xs⟩
def Uk:∀(l:aWv),RL β Z w (l.map .v) l
 | []=>bM
 |x::xs=>by simp only [ET,RL,R];exact ⟨x,xs,rfl,rfl,Uk xs⟩
def aEB {x:LV}{y:aWx}(h:Wp x=U) (hr:R β Z w x y):K2 y=true:=by
 cases x with
 |v q=>simp only [R] at hr;rw [hr];exact h
 |bl b=>simp only [R] at hr;rw [hr];rfl
 |ki k n=>simp only [R] at hr;rw [hr];rfl
 |own k off=>simp only [R] at hr;rw [hr];rfl
 |fn f l=>simp only [R] at hr;obtain ⟨ys,h1,_⟩:=hr;rw [h1];rfl
 |fb f l=>simp only [R] at hr;obtain ⟨ys,h1,_⟩:=hr;rw [h1];rfl
 |xq n f=>simp only [R] at hr;obtain ⟨b,off,h1,_⟩:=hr;rw [h1];rfl
 |os k es off n=>
  simp only [R] at hr;split at hr
  ·rw [hr.2.2];rfl
  ·obtain ⟨_,a,h1,_⟩:=hr;rw [h1];rfl
 |op k es i j=>simp only [R] at hr;rw [hr.2];rfl
 |om k=>simp only [R] at hr;rw [hr];rfl
 |mp kd ks vs=>simp only [R] at hr;obtain ⟨r,es,c,h1,_⟩:=hr;rw [h1];rfl
 |oc k es off n c=>simp only [R] at hr;obtain ⟨_,a,h1,_⟩:=hr;rw [h1];rfl
 |CO k=>simp only [R] at hr;rw [hr];rfl
 |xl e l=>simp only [R] at hr;obtain ⟨b,off,h1,_⟩:=hr;rw [h1];rfl
 |agg l=>simp [Wp] at h
 |AO l=>simp [Wp] at h
 |junk=>simp [Wp] at h
def afi {y:aWx}(h:K2 y=U):y.cells=#[y]:=by cases y<;>first|rfl|(simp [K2] at h)
def pY {x:LV}{y:aWx}{cs:aWf}(h:CN x=ah cs) (hr:R β Z w x y):RL β Z w cs y.cells.toList/\(∀z∈y.cells.toList,K2 z=U):=by
 have single:∀x:LV,Wp x=U->R β Z w x y->RL β Z w [x] y.cells.toList/\(∀z∈y.cells.toList,K2 z=U):=λx hx hr=>by
  have h1:=aEB hx hr
  rw [afi h1];refine ⟨?_,?_⟩
  ·simp only [RL];exact ⟨y,[],rfl,hr,rfl⟩
  ·intro z hz
   grind
 cases x with
 | v q=>
  simp only [CN] at h;split at h
  ·rename_i ha
   simp only [Ai] at h;subst h hr;exact ⟨Uk _,λz hz=>BO.1 ha z hz⟩
  ·cases h
 | agg l=>
  simp only [CN] at h;split at h
  ·rename_i ha
   simp only [Ai] at h;obtain ⟨ys,h1,h2⟩:=hr;subst h h1;refine ⟨h2,λz hz=>?_⟩
   obtain ⟨i,hi,hz'⟩:=HG.1 hz
   have hlen:=RL.length h2
   have hl:l[i]? =ah (l[i]'(by simp only [Value.cells] at hi;omega)):=Dg _
   obtain ⟨y',e1,e2⟩:=RL.get i _ h2 hl
   have:y'=z:=by
    simp only [Value.cells] at hi hz'
    grind
   rw [<-this];exact aEB (BO.1 ha _<|GZ _) e2
  ·cases h
 |bl b=>simp only [CN,Ai] at h;subst h;exact single _ rfl hr
 |ki k n=>simp only [CN,Ai] at h;subst h;exact single _ rfl hr
 |own k off=>simp only [CN,Ai] at h;subst h;exact single _ rfl hr
 |fn f l=>simp only [CN,Ai] at h;subst h;exact single _ rfl hr
 |fb f l=>simp only [CN,Ai] at h;subst h;exact single _ rfl hr
 |xq n f=>simp only [CN,Ai] at h;subst h;exact single _ rfl hr
 |os k es off n=>simp only [CN,Ai] at h;subst h;exact single _ rfl hr
 |op k es i j=>simp only [CN,Ai] at h;subst h;exact single _ rfl hr
 |om k=>simp only [CN,Ai] at h;subst h;exact single _ rfl hr
 |mp kd ks vs=>simp only [CN,Ai] at h;subst h;exact single _ rfl hr
 |oc k es off n c=>simp only [CN,Ai] at h;subst h;exact single _ rfl hr
 |CO k=>simp only [CN,Ai] at h;subst h;exact single _ rfl hr
 |xl e l=>simp only [CN,Ai] at h;subst h;exact single _ rfl hr
 |AO l=>simp [CN] at h
 |junk=>simp [CN] at h
def pK {n:aWe}{x:LV}{cs:aWf}(h:CN x=ah cs) (hr:okV n x):AT n cs:=by
 cases x with
 |v q=>
  simp only [CN] at h;split at h
  ·simp only [Ai] at h;subst h;exact Td _ _
  ·cases h
 |agg l=>
  simp only [CN] at h;split at h
  ·simp only [Ai] at h;subst h;simpa only [okV] using hr
  ·cases h
 |bl b=>simp only [CN,Ai] at h;subst h;exact ⟨hr,ak⟩
 |ki k n=>simp only [CN,Ai] at h;subst h;exact ⟨hr,ak⟩
 |own k off=>simp only [CN,Ai] at h;subst h;exact ⟨hr,ak⟩
 |fn f l=>simp only [CN,Ai] at h;subst h;exact ⟨hr,ak⟩
 |fb f l=>simp only [CN,Ai] at h;subst h;exact ⟨hr,ak⟩
 |xq n f=>simp only [CN,Ai] at h;subst h;exact ⟨hr,ak⟩
 |os k es off n=>simp only [CN,Ai] at h;subst h;exact ⟨hr,ak⟩
 |op k es i j=>simp only [CN,Ai] at h;subst h;exact ⟨hr,ak⟩
 |om k=>simp only [CN,Ai] at h;subst h;exact ⟨hr,ak⟩
 |mp kd ks vs=>simp only [CN,Ai] at h;subst h;exact ⟨hr,ak⟩
 |oc k es off n c=>simp only [CN,Ai] at h;subst h;exact ⟨hr,ak⟩
 |CO k=>simp only [CN,Ai] at h;subst h;exact ⟨hr,ak⟩
 |xl e l=>simp only [CN,Ai] at h;subst h;exact ⟨ak,ak⟩
 |AO l=>simp [CN] at h
 |junk=>simp [CN] at h
def Q1 (G:B5) (Z:aWe->Prop) (w:aWq):Prop:=∀g n f,G g=ah (n,f)->Z g/\∀j,j<n->w.cell? ⟨g,j,aj⟩=ah (f j)
def okB (n:aWe) (b:AB):Prop:=AT n b.c/\(match b.k with| .mp _ _ vs=>AT n vs|_=>True)
def live (β:aWe->aWU) (k:aWe) (b:AB):Prop:=
 match b.k with
 | .cl=>True
 | .vec _ _=>(β k).cap≠aj
 | .mp ..=>True
 | .Cl ..=>True
 | .st ..=>True
 | .dead=>False
def aTA:Ex->Option Code
 | .normal=>aj
 | .exit n=>ah (.exit n)
 | .ret=>ah .ret
def LsR:LS->Loop->Prop
 | .ready,r=>r.state=.ready/\r.pending=aj
 | .busy,r=>r.state=.busy
 | .done x,r=>r.state=.done/\r.pending=aTA x
def BZ (β:aWe->aWU) (Z:aWe->Prop) (w:aWq) (k:aWe) (b:AB):Prop:=
 match b.k with
 | .cl=>∃cs,w.heap[(β k).b]? =ah (.cells cs b.t (0,0))/\RL β Z w b.c cs.toList
 | .vec e l=>match (β k).cap with
  |none=>l=[]
  |some c=>∃cs,w.heap[(β k).b]? =ah (.cells cs b.t (0,0))/\(β k).o+c*e.n<=cs.size/\M l<=c/\∀(i:aWe) (d:e.D),l[i]? =ah d->RD Z w e d (β k).b ((β k).o+i*e.n)
 | .mp kd ks vs=>∃es clock,w.heap[(β k).b]? =ah (.map es clock)/\es.toList.map (·.key)=ks.map (.int kd)/\RL β Z w vs (es.toList.map (·.val))
 | .Cl ps asg body st=>∃r:Loop,w.heap[(β k).b]? =ah (.loop r)/\r.params=ps/\r.assign=asg/\r.body=body/\LsR st r/\RL β Z w b.c r.tmps.toList
 | .st e l=>∃es clock,w.heap[(β k).b]? =ah (.map es clock)/\es.toList.map (·.key)=List.map (wH e) l/\∀x,x∈es.toList->x.val=.bool U
 | .dead=>True
abbrev Gn (D:aWe):Deferred:={target:=.collected D,args:=#[]}
def Fv (w:aWq) (D:aWe):Prop:=w.heap[D]? =ah (.deferred<|ah [])
structure RW (G:B5) (w0:aWq) (Z0:Gz) (Z:aWe->Prop) (β:aWe->aWU) (H:aWi) (w:aWq):Prop where
 below:Below w0.heap.size w0 w
 Bc:∀b,Z b->b<w.heap.size
 Et:∀b,Z b->Z0.z b\/w0.heap.size<=b
 Cp:∀k b,H[k]? =ah b->live β k b->b.p=X->¬Z (β k).b
 GL:∀k b,H[k]? =ah b->live β k b->b.p=U->Z (β k).b
 low:∀k b,H[k]? =ah b->live β k b->w0.heap.size<=(β k).b
 inj:∀i j bi bj,H[i]? =ah bi->H[j]? =ah bj->live β i bi->live β j bj->bi.p=X->(β i).b=(β j).b->i=j
 blk:∀k b,H[k]? =ah b->BZ β Z w k b/\okB (M H) b
 Cb:Q1 G Z w
 gh:∀p,p∈Z0.gh->R β Z w p.1 p.2/\okV (M H) p.1
 Cr:∀D,D∈Z0.Cr->Z D/\Fv w D
structure RF (ds:aWT) (β:aWe->aWU) (Z:aWe->Prop) (w:aWq) (n:aWe) (F:aWf) (a:aWD):Prop where
 size:a.tmps.size=M F
 get:∀t x,F[t]? =ah x->R β Z w x (a.tmps.getD t undef)/\okV n x
 defers:a.defers=ds/\∀d,d∈ds->∃D,d=Gn D/\Z D/\Fv w D
def RF.eval (hF:RF ds β Z w (M H) F a) (hg:Q1 G Z w) (x:aWS):R β Z w (AL G F x) (a.eval x)/\okV (M H) (AL G F x):=by
 cases x with
 |tmp t=>
  simp only [AL,Act.eval];cases h:F[t]? with
  |none=>simp [List.getD,h,R,okV]
  |some y=>simp only [List.getD,h,lP];exact hF.get t y h
 |const x=>
  simp only [AL,Act.eval];cases x<;>simp [R,okV]
 | global g=>
  simp only [AL,Act.eval];split
  ·rename_i n f h
   obtain ⟨h1,h2⟩:=hg g n f h;simp only [R,okV]
   grind
  ·simp [R,okV]
 |func f=>simp only [AL,Act.eval,R,RL,okV,AT];exact ⟨⟨#[],rfl,rfl⟩,ak⟩
def T.pick {α:Type}{K:α->Prop}:∀ {t:T α},t.all K->∃x,K x/\t.all (λy=>y=x)
 | .ok x,h=>⟨x,h,rfl⟩
 | .br b t e,h=>by
  cases b with
  |true=>obtain ⟨x,h1,h2⟩:=T.pick<|h.1 rfl;exact ⟨x,h1,λ_=>h2,λhb=>LH⟩
  |false=>obtain ⟨x,h1,h2⟩:=T.pick<|h.2 rfl;exact ⟨x,h1,λhb=>LH,λ_=>h2⟩
 | .req p t,h=>by obtain ⟨x,h1,h2⟩:=T.pick h.2;exact ⟨x,h1,h.1,h2⟩
 | .no,h=>Ao
def cell_of_block {b:aWe}{cs:aWz}{t:aWu}(h:w.heap[b]? =ah (.cells cs t (0,0))) (o:aWe):w.cell? ⟨b,o,aj⟩=cs[o]? :=by
 simp [World.cell?,h]
def adW {b:aWe}{cs:aWz}{t:aWu}(h:w.heap[b]? =ah (.cells cs t (0,0))) (o:aWe):w.frozen? ⟨b,o,aj⟩=false:=by
 simp [World.frozen?,h]
def addr_add (b o i:aWe):Addr.add ⟨b,o,aj⟩ i=⟨b,o+i,aj⟩:=by
 unfold Addr.add;split
 ·grind
 ·rfl
def cj {t:aWu}{b:aWo}(h:SE P t=ah b) (w:aWq):(isAgg t).run P w=.ok b w:=by
 unfold SE at h;cases hu:P.underlying t with
 |none=>simp [hu] at h
 |some d=>
  unfold isAgg;simp only [lM,CZ hu,lq];cases d<;>simp_all
def run_sizeOf {t:aWu}{n:aWe}(h:HN P t=ah n) (w:aWq):(sizeOf t).run P w=.ok n w:=by
 unfold HN at h;cases hu:P.info? t with
 |none=>simp [hu] at h
 |some d=>
  simp only [hu,Jh,Ai] at h
  simp [sizeOf,typeInfo,hu,h]
def oS {t:aWu}{z:aWx}(h:IV P t=ah z) (w:aWq):(zeroValue t).run P w=.ok z w:=by
 unfold IV at h;cases hu:P.info? t with
 |none=>simp [hu] at h
 |some d=>
  simp only [hu,OR] at h
  simp [zeroValue,typeInfo,hu,h]
def RL.take_drop {l:aWf}{ys:aWv}(h:RL β Z w l ys) (off n:aWe):RL β Z w ((l.drop off).take n) ((ys.drop off).take n):=by
 have hl:=RL.length h
 refine RL.CU A8 λi x hx=>?_
 rw [LD] at hx|-;split at hx
 ·rename_i hi
  rw [AD hi];rw [FP] at hx|-;exact RL.get _ _ h hx
 ·cases hx
def AT.take_drop {n:aWe}{l:aWf}(h:AT n l) (off m:aWe):AT n ((l.drop off).take m):=by
 refine AT.CU λi x hx=>?_
 rw [LD] at hx;split at hx
 ·rw [FP] at hx;exact AT.get _ _ h hx
 ·cases hx
def RF.mono {β':aWe->aWU}{Z':aWe->Prop}{w':aWq}{n m:aWe}(hF:RF ds β Z w n F a) (hn:n<=m) (hβ:∀k,k<n->β' k=β k) (hZ:∀b,Z b->Z' b)
  (hw:∀b,Z b->w'.heap[b]? =w.heap[b]?):RF ds β' Z' w' m F a:=
 ⟨hF.size,λt x hx=>⟨R.mono hβ hZ hw x _ (hF.get t x hx).2 (hF.get t x hx).1,okV.mono hn x (hF.get t x hx).2⟩,hF.defers.1,λd hd=>by
  obtain ⟨D,h1,h2,h3⟩:=hF.defers.2 d hd;exact ⟨D,h1,hZ D h2,by unfold Fv;rw [hw D h2];exact h3⟩⟩
def okB.mono {n m:aWe}(h:n<=m) {b:AB}(hb:okB n b):okB m b:=by
 refine ⟨AT.mono h _ hb.1,?_⟩
 have:=hb.2
 split
 ·rename_i hk;rw [hk] at this;exact AT.mono h _ this
 ·trivial
def KX {β':aWe->aWU}{k:aWe}{b:AB}(h:β' k=β k):live β' k b=live β k b:=by
 unfold live;rw [h]
def BZ.keep {β':aWe->aWU}{Z':aWe->Prop}{w':aWq}{n k:aWe}{b:AB}(hβ:∀k,k<n->β' k=β k) (hZ:∀b,Z b->Z' b) (hw:∀b,Z b->w'.heap[b]? =w.heap[b]?) (hk:β' k=β k)
  (hb:live β k b->w'.heap[(β k).b]? =w.heap[(β k).b]?) (hok:okB n b) (h:BZ β Z w k b):BZ β' Z' w' k b:=by
 unfold BZ at*;unfold live at hb;unfold okB at hok;rw [hk];split at h
 ·rename_i hbk
  obtain ⟨cs,h1,h2⟩:=h;exact ⟨cs,A8,RL.mono hβ hZ hw _ _ hok.1 h2⟩
 ·rename_i e l hbk
  simp only [hbk] at hb|-;split at h
  ·rename_i hc
   grind
  ·rename_i c hc
   have hb':=hb (by rw [hc];simp)
   obtain ⟨cs,h1,h2,h3,h4⟩:=h;exact ⟨cs,A8,h2,h3,λi d hd=>RD.keep hZ hw e d _ _ hb'<|h4 i d hd⟩
 ·rename_i kd ks vs hbk
  simp only [hbk] at hb hok|-;obtain ⟨es,clock,h1,h2,h3⟩:=h;exact ⟨es,clock,A8,h2,RL.mono hβ hZ hw _ _ hok.2 h3⟩
 ·rename_i ps asg body st hbk
  obtain ⟨r,h1,h2,h3,h4,h5,h6⟩:=h;exact ⟨r,A8,h2,h3,h4,h5,RL.mono hβ hZ hw _ _ hok.1 h6⟩
 ·rename_i e l hbk
  grind
 ·rename_i hbk
  grind
def RW.lt (hW:RW G w0 Z0 Z β H w) {k:aWe}{b:AB}(hk:H[k]? =ah b) (hl:live β k b):(β k).b<w.heap.size:=by
 have h:=(hW.blk k b hk).1
 unfold BZ at h;unfold live at hl;split at h
 ·obtain ⟨cs,h1,_⟩:=h
  grind
 ·rename_i hbk
  split at h
  ·grind
  ·obtain ⟨cs,h1,_⟩:=h
   grind
 ·obtain ⟨es,clock,h1,_⟩:=h
  grind
 ·obtain ⟨r,h1,_⟩:=h
  grind
 ·obtain ⟨es,clock,h1,_⟩:=h
  grind
 ·rename_i hbk
  grind
def EG {w w':aWq}(hb:Below w.heap.size w w') {b:aWe}(h:b<w.heap.size):w'.heap[b]? =w.heap[b]? :=hb.block b h
def Q1.mono {Z':aWe->Prop}{w':aWq}(h:Q1 G Z w) (hZ:∀b,Z b->Z' b) (hw:∀b,Z b->w'.heap[b]? =w.heap[b]?):Q1 G Z' w':=λg n f hg=>by
 obtain ⟨h1,h2⟩:=h g n f hg;exact ⟨hZ _ h1,λj hj=>by rw [QN<|hw g h1];exact h2 j hj⟩
def RW.call {w':aWq}(hW:RW G w0 Z0 Z β H w) (hb:Below w.heap.size w w'):RW G w0 Z0 (λb=>Z b\/(w.heap.size<=b/\b<w'.heap.size)) β H w':=by
 have hs:=hb.size
 have h0:=hW.below.size
 have hw:∀b,Z b->w'.heap[b]? =w.heap[b]? :=λb hz=>EG hb<|hW.Bc b hz
 refine ⟨hW.below.trans<|hb.mono h0,λb hz=>?_,λb hz=>?_,λk b hk hl hp hz=>?_,λk b hk hl hp=> .inl<|hW.GL k b hk hl hp,hW.low,hW.inj,λk b hk=>?_,hW.Cb.mono (λ_ h=> .inl h) hw,λp hp=>⟨R.mono (n:=M H) (λ_ _=>rfl) (λ_ h=> .inl h) hw _ _ (hW.gh p hp).2 (hW.gh p hp).1,(hW.gh p hp).2⟩,λD hD=>⟨.inl (hW.Cr D hD).1,aV⟩⟩
 ·rcases hz with hz|hz
  ·have:=hW.Bc b hz;omega
  ·exact hz.2
 ·rcases hz with hz|hz
  ·exact hW.Et b hz
  ·omega
 ·rcases hz with hz|hz
  ·exact hW.Cp k b hk hl hp hz
  ·have:=hW.lt hk hl;omega
 ·obtain ⟨h1,h2⟩:=hW.blk k b hk
  exact ⟨h1.keep (λ_ _=>rfl) (λ_ h=> .inl h) hw rfl (λhl=>EG hb<|hW.lt hk hl) h2,h2⟩
def RW.same {w':aWq}(hW:RW G w0 Z0 Z β H w) (hb:Below w.heap.size w w'):RW G w0 Z0 Z β H w':=by
 have hs:=hb.size
 have h0:=hW.below.size
 have hw:∀b,Z b->w'.heap[b]? =w.heap[b]? :=λb hz=>EG hb<|hW.Bc b hz
 refine ⟨hW.below.trans<|hb.mono h0,λb hz=>?_,hW.Et,hW.Cp,hW.GL,hW.low,hW.inj,λk b hk=>?_,hW.Cb.mono (λ_ h=>h) hw,λp hp=>⟨R.mono (n:=M H) (λ_ _=>rfl) (λ_ h=>h) hw _ _ (hW.gh p hp).2 (hW.gh p hp).1,(hW.gh p hp).2⟩,λD hD=>⟨(hW.Cr D hD).1,aV⟩⟩
 ·have:=hW.Bc b hz;omega
 ·obtain ⟨h1,h2⟩:=hW.blk k b hk
  exact ⟨h1.keep (λ_ _=>rfl) (λ_ h=>h) hw rfl (λhl=>EG hb<|hW.lt hk hl) h2,h2⟩
def RW.Km {ℓ:aWU}{nb:AB}(hW:RW G w0 Z0 Z β H w) (hp:nb.p=X) (hok:okB (M H+1) nb)
  (hf:live (λ_=>ℓ) 0 nb->¬Z ℓ.b/\w0.heap.size<=ℓ.b/\∀j bj,H[j]? =ah bj->live β j bj->(β j).b≠ℓ.b)
  (hB:∀β':aWe->aWU,(∀k,k<M H->β' k=β k)->β' (M H)=ℓ->BZ β' Z w (M H) nb):
  ∃β',(∀k,k<M H->β' k=β k)/\β' (M H)=ℓ/\RW G w0 Z0 Z β' (H++[nb]) w:=by
 let β':aWe->aWU:=λk=>if k=M H then ℓ else β k
 have hb':∀k,k<M H->β' k=β k:=λk hk=>A8
 have hbn:β' (M H)=ℓ:=by simp [β']
 have hlive:live β' (M H) nb=live (λ_=>ℓ) 0 nb:=by unfold live;rw [hbn]
 have old:∀k b,(H++[nb])[k]? =ah b->(k<M H/\H[k]? =ah b/\β' k=β k)\/(k=M H/\b=nb):=λk b h=>by
  by_cases hk:k<M H
  ·grind
  ·have hkl:k=M H:=A8
   subst hkl
   simp at h
   exact .inr ⟨rfl,h.symm⟩
 refine ⟨β',hb',hbn,hW.below,hW.Bc,hW.Et,λk b hk hl hp'=>?_,λk b hk hl hp'=>?_,λk b hk hl=>?_,λi j bi bj hi hj li lj hpi e=>?_,λk b hk=>?_,hW.Cb,λp hp=>⟨R.mono hb' (λ_ h=>h) (λ_ _=>rfl) _ _ (hW.gh p hp).2 (hW.gh p hp).1,okV.mono AI _ (hW.gh p hp).2⟩,hW.Cr⟩
 ·rcases old k b hk with ⟨h1,h2,h3⟩ |⟨rfl,rfl⟩
  ·rw [h3];rw [KX h3] at hl;exact hW.Cp k b h2 hl hp'
  ·grind
 ·rcases old k b hk with ⟨h1,h2,h3⟩ |⟨rfl,rfl⟩
  ·rw [h3];rw [KX h3] at hl;exact hW.GL k b h2 hl hp'
  ·rw [hp] at hp';cases hp'
 ·rcases old k b hk with ⟨h1,h2,h3⟩ |⟨rfl,rfl⟩
  ·rw [h3];rw [KX h3] at hl;exact hW.low k b h2 hl
  ·grind
 ·rcases old i bi hi with ⟨h1,h2,h3⟩ |⟨rfl,rfl⟩
  ·rw [KX h3] at li
   rcases old j bj hj with ⟨g1,g2,g3⟩ |⟨rfl,rfl⟩
   ·rw [KX g3] at lj;rw [h3,g3] at e;exact hW.inj i j bi bj h2 g2 li lj hpi e
   ·grind
  ·rw [hlive] at li
   rcases old j bj hj with ⟨g1,g2,g3⟩ |⟨rfl,rfl⟩
   ·rw [KX g3] at lj;rw [hbn,g3] at e;exact absurd e.symm<|(hf li).2.2 j bj g2 lj
   ·rfl
 ·have hlen:M (H++[nb])=M H+1:=AI
  rw [hlen];rcases old k b hk with ⟨h1,h2,h3⟩ |⟨rfl,rfl⟩
  ·obtain ⟨g1,g2⟩:=hW.blk k b h2
   exact ⟨g1.keep hb' (λ_ h=>h) (λ_ _=>rfl) h3 (λ_=>rfl) g2,g2.mono A0⟩
  ·grind
def RW.set {w':aWq}{k:aWe}{b nb:AB}(hW:RW G w0 Z0 Z β H w) (hk:H[k]? =ah b) (hl:live β k b) (hp:b.p=X) (hnp:nb.p=X) (hok:okB (M H) nb)
  (hsz:w'.heap.size=w.heap.size) (hos:w'.os=w.os/\w'.tape=w.tape/\w'.output=w.output) (hne:∀j,j≠(β k).b->w'.heap[j]? =w.heap[j]?) (hB:BZ β Z w' k nb):RW G w0 Z0 Z β (H.set k nb) w':=by
 have hw:∀b',Z b'->w'.heap[b']? =w.heap[b']? :=λb' hz=>hne b' λe=>hW.Cp k b hk hl hp<|e▸hz
 have old:∀i bi,(H.set k nb)[i]? =ah bi->(i=k/\bi=nb)\/(i≠k/\H[i]? =ah bi):=λi bi h=>by
  rw [IN] at h;split at h
  ·rename_i e
   grind
  ·grind
 refine ⟨?_,λb' hz=>aP3,hW.Et,λi bi hi li pi=>?_,λi bi hi li pi=>?_,λi bi hi li=>?_,λi j bi bj hi hj li lj pi e=>?_,λi bi hi=>?_,hW.Cb.mono (λ_ h=>h) hw,λp hp=>⟨R.mono (n:=M H) (λ_ _=>rfl) (λ_ h=>h) hw _ _ (hW.gh p hp).2 (hW.gh p hp).1,aP4⟩,λD hD=>⟨(hW.Cr D hD).1,aV⟩⟩
 ·refine hW.below.trans ⟨hos.1,hos.2.1,hos.2.2,mE hsz.symm,λi hi=>hne i ?_⟩
  have:=hW.low k b hk hl
  omega
 ·rcases old i bi hi with ⟨rfl,rfl⟩ |⟨h1,h2⟩
  ·exact hW.Cp _ b hk hl hp
  ·exact hW.Cp i bi h2 li pi
 ·rcases old i bi hi with ⟨rfl,rfl⟩ |⟨h1,h2⟩
  ·grind
  ·exact hW.GL i bi h2 li pi
 ·rcases old i bi hi with ⟨rfl,rfl⟩ |⟨h1,h2⟩
  ·exact hW.low _ b hk hl
  ·exact hW.low i bi h2 li
 ·rcases old i bi hi with ⟨rfl,rfl⟩ |⟨h1,h2⟩
  ·rcases old j bj hj with ⟨rfl,rfl⟩ |⟨g1,g2⟩
   ·rfl
   ·exact hW.inj _ j b bj hk g2 hl lj hp e
  ·rcases old j bj hj with ⟨rfl,rfl⟩ |⟨g1,g2⟩
   ·exact hW.inj i _ bi b h2 hk li hl pi e
   ·exact hW.inj i j bi bj h2 g2 li lj pi e
 ·rw [C3]
  rcases old i bi hi with ⟨rfl,rfl⟩ |⟨h1,h2⟩
  ·grind
  ·obtain ⟨g1,g2⟩:=hW.blk i bi h2
   refine ⟨g1.keep (λ_ _=>rfl) (λ_ h=>h) hw rfl (λli=>hne _ λe=>?_) g2,g2⟩
   exact h1 (hW.inj k i b bi hk h2 hl li hp e.symm).symm
def RW.alloc {cs:aWf}{vs:aWz}{t:aWu}(hW:RW G w0 Z0 Z β H w) (hr:RL β Z w cs vs.toList) (hk:AT (M H) cs):
  ∃β',(∀k,k<M H->β' k=β k)/\(β'<|M H).b=w.heap.size/\RW G w0 Z0 Z β' (H++[⟨cs,t,.cl,X⟩]) (w.alloc<|.cells vs t)/\(∀b,Z b->(w.alloc<|.cells vs t).heap[b]? =w.heap[b]?):=by
 have hbw:Below w.heap.size w (w.alloc<|.cells vs t):=(Below.refl _ _).alloc (At _) _
 have hw:∀b,Z b->(w.alloc<|.cells vs t).heap[b]? =w.heap[b]? :=λb hz=>EG hbw<|hW.Bc b hz
 obtain ⟨β',h1,h2,h3⟩:=(hW.same hbw).Km (ℓ:=⟨w.heap.size,0,aj⟩) (nb:=⟨cs,t,.cl,X⟩) rfl ⟨AT.mono A0 _ hk,ak⟩ (λ_=>⟨λhz=>aR,hW.below.size,λj bj hj lj e=>Sq⟩) (λβ' h1 h2=>by
  simp only [BZ,h2];refine ⟨vs,?_,RL.mono h1 (λ_ h=>h) hw _ _ hk hr⟩
  show (w.heap.push _)[w.heap.size]? =_
  simp)
 grind
def DZ (β:aWe->aWU) (H:aWi) (ks:aWj):aWj:=(ks.filter λk=>@decide (∃b,H[k]? =ah b/\live β k b/\b.p=X)<|Classical.propDecidable _).map λk=>(β k).b
def dj {ks:aWj}{x:aWe}:x∈DZ β H ks↔∃k b,k∈ks/\H[k]? =ah b/\live β k b/\b.p=X/\x=(β k).b:=by
 unfold DZ;simp only [F5,CS]
 constructor
 ·rintro ⟨k,⟨h1,h2⟩,h3⟩
  grind
 ·rintro ⟨k,b,h1,h2,h3,h4,h5⟩
  grind
def TJ {k:aWe}{b:AB}(hb:H[k]? =ah b) (hl:live β k b) (hp:b.p=X):(β k).b∈DZ β H [k]:=dj.2 ⟨k,b,AI,hb,hl,hp,rfl⟩
end Go.Sx
namespace Go.Sx
open Go.Proofs.YtoifmkifedcnnaaGreatDoor
open Go Go.RowKit
variable {P : Program} {G : B5} {Γ : Specs} {β : Nat -> Loc} {Z : Nat -> Prop} {Z0 : Gz} {w w0 : World} {F : List LV} {H : List AB} {a : Act}
def RD.cells {Z Z':aWe->Prop}{w w':aWq}(hZ:∀b,Z b->Z' b) (hw:∀b,Z b->w'.heap[b]? =w.heap[b]?):
  ∀(t:Ty) (d:t.D) (b o:aWe),(∀j,j<t.n->w'.cell? ⟨b,o+j,aj⟩=w.cell? ⟨b,o+j,aj⟩)->RD Z w t d b o->RD Z' w' t d b o
 | .int _,_,b,o,hb,h=>VT
 | .bool,_,b,o,hb,h=>VT
 | .str,_,b,o,hb,h=>VT
 | .sl e,l,b,o,hb,h=>by
  exact aMG
 | .pair x y,d,b,o,hb,h=>by
  refine ⟨RD.cells hZ hw x d.1 b o (λj hj=>hb j mh) h.1,RD.cells hZ hw y d.2 b _ (λj hj=>?_) h.2⟩
  have:=hb (x.n+j) mh
  grind
def getD_lt {l:aWf}{j:aWe}(h:j<M l):l[j]? =ah (l.getD j .junk):=A8
def fR {n:aWe}{l:aWf}(h:AT n l) (j:aWe):okV n (l.getD j .junk):=by
 cases hq:l[j]? with
 |none=>simp [List.getD,hq,okV]
 |some q=>simp only [List.getD,hq,lP];exact AT.get _ _ h hq
def getD_at {e:Ty}{l:List e.D}{i:aWe}(h:i<M l):l[i]? =ah (l.getD i e.dflt):=A8
def qT {b off n:aWe}{L:aWf}(hL:M L=n) (hc:∀q,q<n->∃z,w.cell? ⟨b,off+q,aj⟩=ah z/\R β Z w (L.getD q .junk) z):
  ∃zs:aWv,M zs=n/\RL β Z w L zs/\∀w':aWq,w'.heap[b]? =w.heap[b]? ->(loadCells ⟨b,off,aj⟩ n).run P w'=.ok zs.toArray w':=by
 have hch:∀j,∃z,j<n->w.cell? ⟨b,off+j,aj⟩=ah z/\R β Z w (L.getD j .junk) z:=λj=>by
  by_cases hj:j<n
  ·grind
  ·exact ⟨undef,λh=>absurd h hj⟩
 obtain ⟨g,hg⟩:=xG hch;refine ⟨(au n).map g,AI,RL.CU A8 λi x hx=>?_,λw' hw'=>?_⟩
 ·have hi:i<n:=A8
  refine ⟨g i,A8,?_⟩
  grind
 ·have hld:=run_loadCells (P:=P) w' ⟨b,off,aj⟩ n g (λj hj=>by rw [addr_add,QN (w:=w) (w':=w') hw'];exact (hg j hj).1)
  grind
def oY {t:aWu}{x lv:LV}{y:aWx}(hW:RW G w0 Z0 Z β H w) (h:(FY P H t x).all λz=>z=lv) (hr:R β Z w x y) (hk:okV (M H) x):
  ∃z,(∀w',(∀b,(Z b\/∃k,k∈owns x/\b=(β k).b)->w'.heap[b]? =w.heap[b]?)->(Instr.loadAt t y).run P w'=.ok z w')/\R β Z w lv z/\okV (M H) lv:=by
 have ownCl:∀(k:aWe) (b:AB),H[k]? =ah b->b.E4=U->∃cs,w.heap[(β k).b]? =ah (.cells cs b.t (0,0))/\RL β Z w b.c cs.toList/\AT (M H) b.c:=λk b hb hc=>by
  obtain ⟨h1,h2⟩:=hW.blk k b hb;unfold BZ at h1;unfold AB.E4 at hc;split at hc
  ·rename_i hk'
   simp only [hk'] at h1;obtain ⟨cs,h3,h4⟩:=h1;exact ⟨cs,h3,h4,h2.1⟩
  ·cases hc
 have vecAt:∀(k es i:aWe) (c:aWf) (t:aWu) (e:Ty) (l:List e.D) (p:aWo),H[k]? =ah ⟨c,t,.vec e l,p⟩->(β k).cap≠aj->e.n=es->i<M l->∀q,q<es->∃z,w.cell? ⟨(β k).b,(β k).o+i*es+q,aj⟩=ah z/\R β Z w ((Bq e<|l.getD i e.dflt).getD q .junk) z:=λk es i c t e l p hb hcap hes hi q hq=>by
  have h1:=(hW.blk k _ hb).1
  simp only [BZ] at h1;split at h1
  ·exact yB
  ·obtain ⟨cs,_,_,_,h4⟩:=h1
   have h5:=h4 i _<|getD_at hi
   subst hes;exact X3 e _ _ _ h5 q _<|getD_lt (by rw [KJ];exact hq)
 unfold FY at h;split at h
 ·rename_i n hag hsz
  have e1:=λw=>cj hag w
  have e2:=λw=>run_sizeOf hsz w
  split at h
  ·rename_i k off
   split at h
   ·rename_i b hb
    split at h
    ·rename_i hle
     simp only [T.all] at h;obtain ⟨cs,hc,hrl,hok⟩:=ownCl k b hb hle.1;simp only [R] at hr
     have hlen:=RL.length hrl
     have hn:M ((b.c.drop off).take n)=n:=DD
     obtain ⟨zs,f1,f2,f3⟩:=qT (P:=P) (β:=β) (Z:=Z) (w:=w) (b:=(β k).b) (off:=off) (L:=(b.c.drop off).take n) hn (λq hq=>by
      have hlt:off+q<M b.c:=A0
      obtain ⟨z,h1,h2⟩:=RL.get _ _ hrl<|Dg hlt;refine ⟨z,aOI,?_⟩
      have:((b.c.drop off).take n).getD q .junk=b.c[off+q]:=by
       grind
      rw [this];exact h2)
     refine ⟨.agg zs.toArray,λw' hw'=>?_,?_,?_⟩
     ·have:=f3 w' (hw' (β k).b<|.inr ⟨k,Is,rfl⟩)
      simp [Instr.loadAt,Instr.sureAddr,hr,loadVar,e1,e2,this]
     ·exact yG
     ·rw [<-h];exact QT<|hok.take_drop off n
    ·cases h
   ·cases h
  ·rename_i m f
   split at h
   ·rename_i hle
    simp only [T.all] at h;simp only [R] at hr;obtain ⟨b,off,e3,hz,e4⟩:=hr;simp only [okV] at hk
    obtain ⟨zs,f1,f2,f3⟩:=qT (P:=P) (β:=β) (Z:=Z) (w:=w) (b:=b) (off:=off) (L:=(au n).map f) (n:=n) AI (λq hq=>by
     obtain ⟨z,h1,h2⟩:=e4 q A0;exact ⟨z,h1,by simpa [List.getD,hq] using h2⟩)
    refine ⟨.agg zs.toArray,λw' hw'=>?_,?_,?_⟩
    ·have:=f3 w' (hw' b<|.inl hz)
     simp [Instr.loadAt,Instr.sureAddr,e3,loadVar,e1,e2,this]
    ·exact yG
    ·rw [<-h]
     refine QT<|AT.CU λi x hx=>?_
     have hi:i<n:=by have:=(EE.1 hx).1;simpa using this
     have:x=f i:=by simpa [hi] using hx.symm
     rw [this];exact okV.mono (NA _) _<|hk i
   ·cases h
  ·rename_i k es i j
   split at h
   ·rename_i c t' e l p hb
    split at h
    ·rename_i hle
     simp only [T.all] at h;obtain ⟨hi,h⟩:=h;simp only [R] at hr
     have hva:=vecAt k es i c t' e l p hb hr.1 hle.1 hi
     have hlen:M (Bq e<|l.getD i e.dflt)=es:=by rw [KJ];exact hle.1
     obtain ⟨zs,f1,f2,f3⟩:=qT (P:=P) (β:=β) (Z:=Z) (w:=w) (b:=(β k).b) (off:=(β k).o+i*es+j) (L:=((Bq e<|l.getD i e.dflt).drop j).take n) (n:=n) (by rw [MA,FO,hlen];omega) (λq hq=>by
      obtain ⟨z,h1,h2⟩:=hva (j+q) A0;refine ⟨z,by rw [Hp _ j q];exact h1,?_⟩
      have:(((Bq e<|l.getD i e.dflt).drop j).take n).getD q .junk=(Bq e<|l.getD i e.dflt).getD (j+q) .junk:=by
       generalize Bq e (l.getD i e.dflt)=L
       grind
      rw [this];exact h2)
     refine ⟨.agg zs.toArray,λw' hw'=>?_,?_,?_⟩
     ·have:=f3 w' (hw' (β k).b<|.inr ⟨k,Is,rfl⟩)
      simp [Instr.loadAt,Instr.sureAddr,hr.2,loadVar,e1,e2,this]
     ·exact yG
     ·rw [<-h];exact QT<|(NV _ e _).take_drop j n
    ·cases h
   ·cases h
  ·cases h
 ·rename_i _ hag
  have e1:=λw=>cj hag w
  split at h
  ·rename_i k off
   split at h
   ·rename_i b hb
    split at h
    ·rename_i hcl
     split at h
     ·rename_i z hz
      simp only [T.all] at h;obtain ⟨cs,hc,hrl,hok⟩:=ownCl k b hb hcl;simp only [R] at hr;obtain ⟨q,h1,h2⟩:=RL.get _ _ hrl hz;refine ⟨q,λw' hw'=>?_,?_,?_⟩
      ·have:w'.cell? ⟨(β k).b,off,aj⟩=ah q:=by rw [cell_of_block (by rw [hw' (β k).b<|.inr ⟨k,Is,rfl⟩];exact hc)];simpa using h1
       simp [Instr.loadAt,Instr.sureAddr,hr,loadVar,e1,this]
      ·rw [<-h];exact h2
      ·rw [<-h];exact AT.get _ _ hok hz
     ·cases h
    ·cases h
   ·cases h
  ·rename_i m f
   split at h
   ·rename_i hm
    simp only [T.all] at h;simp only [R] at hr;obtain ⟨b,off,e3,hz,e4⟩:=hr;obtain ⟨z,h1,h2⟩:=e4 0 hm;refine ⟨z,λw' hw'=>?_,?_,?_⟩
    ·have:w'.cell? ⟨b,off,aj⟩=ah z:=by rw [QN (w:=w) (w':=w')<|hw' b<|.inl hz];simpa using h1
     simp [Instr.loadAt,Instr.sureAddr,e3,loadVar,e1,this]
    ·rw [<-h];exact h2
    ·rw [<-h];simp only [okV] at hk;exact okV.mono (NA _) _<|hk 0
   ·cases h
  ·rename_i k es i j
   split at h
   ·rename_i c t' e l p hb
    split at h
    ·rename_i hes
     simp only [T.all] at h;obtain ⟨hi,h⟩:=h;split at h
     ·rename_i q hq
      simp only [T.all] at h;simp only [R] at hr
      have hj:j<es:=by
       have:=(EE.1 hq).1
       rw [KJ] at this;omega
      obtain ⟨z,h1,h2⟩:=vecAt k es i c t' e l p hb hr.1 hes hi j hj
      have hqq:(Bq e<|l.getD i e.dflt).getD j .junk=q:=EF<|(getD_lt (EE.1 hq).1).symm.trans hq
      rw [hqq] at h2;refine ⟨z,λw' hw'=>?_,?_,?_⟩
      ·have:w'.cell? ⟨(β k).b,(β k).o+i*es+j,aj⟩=ah z:=by rw [QN (w:=w) (w':=w')<|hw' (β k).b<|.inr ⟨k,Is,rfl⟩];exact h1
       simp [Instr.loadAt,Instr.sureAddr,hr.2,loadVar,e1,this]
      ·rw [<-h];exact h2
      ·rw [<-h];exact AT.get _ _ (NV _ e _) hq
     ·cases h
    ·cases h
   ·cases h
  ·cases h
 ·cases h
end Go.Sx
namespace Go.Sx
open Go.Proofs.YtoifmkifedcnnaaGreatDoor
open Go Go.RowKit
variable {P : Program} {G : B5} {Γ : Specs} {β : Nat -> Loc} {Z : Nat -> Prop} {Z0 : Gz} {w w0 : World} {F : List LV} {H : List AB} {a : Act}
def qM {z:aWx}(h:K2 z=U):z.oneCell'=true:=by cases z<;>first|rfl|(simp [K2] at h)
def aDK (w:aWq) (g:aWe) (cs:aWz) (k:aWe) (h:k≠g):(w.setRow g cs).heap[k]? =w.heap[k]? :=by
 simp only [World.setRow,Array.getElem?_modify]
 grind
def RL.app:∀ {a b:aWf}{c d:aWv},RL β Z w a c->RL β Z w b d->RL β Z w (a++b) (c++d)
 | [],_,_,_,h,h'=>by simp only [RL] at h;subst h;simpa using h'
 |x::xs,_,_,d,h,h'=>by
  obtain ⟨y,zs,rfl,h3,h4⟩:=h;exact ⟨y,zs++d,rfl,h3,RL.app h4 h'⟩
def RL.drop {l:aWf}{ys:aWv}(h:RL β Z w l ys) (n:aWe):RL β Z w (l.drop n) (ys.drop n):=by
 refine RL.CU (by simp [RL.length h]) λi z hz=>?_
 rw [FP] at hz|-;exact RL.get _ _ h hz
def RL.take {l:aWf}{ys:aWv}(h:RL β Z w l ys) (n:aWe):RL β Z w (l.take n) (ys.take n):=by simpa using h.take_drop 0 n
def RL.setAt {l cs:aWf}{ys zs:aWv}(h1:RL β Z w l ys) (h2:RL β Z w cs zs) (off:aWe):RL β Z w (setAt l off cs) (ys.take off++zs++ys.drop (off+M zs)):=by
 have e2:=RL.length h2
 rw [e2];exact RL.app (RL.app (h1.take off) h2)<|h1.drop _
def AT.append {n:aWe}:∀ {a b:aWf},AT n a->AT n b->AT n (a++b)
 | [],_,_,h=>h
 |_::_,_,h,h'=>⟨h.1,AT.append h.2 h'⟩
def AT.drop {n:aWe}{l:aWf}(h:AT n l) (m:aWe):AT n (l.drop m):=by
 refine AT.CU λi x hx=>?_
 rw [FP] at hx;exact AT.get _ _ h hx
def AT.setAt {n:aWe}{l cs:aWf}(h1:AT n l) (h2:AT n cs) (off:aWe):AT n (setAt l off cs):=by
 refine AT.append (AT.append ?_ h2)<|h1.drop _
 have:=h1.take_drop 0 off;simpa using this
def qB {α:Type}{f:LV->Option α}{l:aWf}{d:α}(h:hd1 f l=ah d):∃x,l=[x]/\f x=ah d:=by
 unfold hd1 at h;exact mS
def avn {a b:Ty}(h:a=b) (l:List a.D) {y:aWx}:R β Z w (.xl b<|Kl h l) y↔R β Z w (.xl a l) y:=by subst h;rfl
def vV {e:Ty}{x:LV}{l:List e.D}{y:aWx}(h:N2 e x=ah l) (hr:R β Z w x y):R β Z w (.xl e l) y:=by
 unfold N2 at h;split at h
 ·split at h
  ·rename_i q h'
   simp only [Ai] at h;subst h;exact (avn q _).2 hr
  ·cases h
 ·simp only [Ai] at h
  simp only [R] at hr|-
  grind
 ·cases h
def vX {Z':aWe->Prop}{w':aWq}(hZ:∀b,Z b->Z' b) (hw:∀b,Z b->w'.heap[b]? =w.heap[b]?):∀(t:Ty) (cs:aWf) (d:t.D) (ys:aWv),Jz t cs=ah d->RL β Z w cs ys->∀(b o:aWe),(∀(j:aWe) v,ys[j]? =ah v->w'.cell? ⟨b,o+j,aj⟩=ah v)->RD Z' w' t d b o:=by
 have one:∀ {l:aWf} {ys:aWv} {x:LV},l=[x]->RL β Z w l ys->∀ {b o:aWe},(∀(j:aWe) v,ys[j]? =ah v->w'.cell? ⟨b,o+j,aj⟩=ah v)->∃y,R β Z w x y/\w'.cell? ⟨b,o,aj⟩=ah y:=by
  intro l ys x hl hr b o hc;subst hl;simp only [RL] at hr;obtain ⟨y,zs,rfl,h1,_⟩:=hr;exact ⟨y,h1,hc 0 y rfl⟩
 intro t
 induction t with
 | int k=>
  intro cs d ys h hr b o hc;obtain ⟨x,hl,hx⟩:=qB h;obtain ⟨y,h1,h2⟩:=one hl hr hc;simp only [RD];rw [h2];unfold wN at hx;split at hx
  ·exact aNK
  ·exact aNK
  ·cases hx
 |bool=>
  intro cs d ys h hr b o hc;obtain ⟨x,hl,hx⟩:=qB h;obtain ⟨y,h1,h2⟩:=one hl hr hc;simp only [RD];rw [h2];unfold wO at hx;split at hx
  ·exact y8
  ·exact y8
  ·cases hx
 |str=>
  intro cs d ys h hr b o hc;obtain ⟨x,hl,hx⟩:=qB h;obtain ⟨y,h1,h2⟩:=one hl hr hc;simp only [RD];rw [h2];unfold wM at hx;split at hx
  ·exact y8
  ·cases hx
 |sl e _=>
  intro cs d ys h hr b o hc;obtain ⟨x,hl,hx⟩:=qB h;obtain ⟨y,h1,h2⟩:=one hl hr hc
  have h3:=vV hx h1
  simp only [R] at h3;obtain ⟨a,cap,g1,g2,g3⟩:=h3;simp only [RD];refine ⟨a,cap,by rw [h2,g1],g2,λhn=>?_⟩
  obtain ⟨b',o',g4,g5,g6⟩:=g3 hn;exact ⟨b',o',g4,hZ _ g5,λi d hd=>RD.mono hZ hw e d b' _ g5<|g6 i d hd⟩
 | pair p q ihp ihq=>
  intro cs d ys h hr b o hc;simp only [Jz] at h;split at h
  ·rename_i x y hx hy
   simp only [Ai] at h;subst h;simp only [RD];refine ⟨ihp _ x _ hx (hr.take p.n) b o λj v hv=>?_,ihq _ y _ hy (hr.drop p.n) b (o+p.n) λj v hv=>?_⟩
   ·exact aNe
   ·rw [FP] at hv
    grind
  ·cases h
def adq {t:aWu} {x q:LV} {y z:aWx} {H':aWi} (hW:RW G w0 Z0 Z β H w) (h:(TW P H t x q).all λr=>r=H') (hr:R β Z w x y) (hq:R β Z w q z) (hqk:okV (M H) q):
  ∃w',(Instr.storeAt t y z).run P w=.ok () w'/\RW G w0 Z0 Z β H' w'/\M H'=M H/\(∀b,Z b->w'.heap[b]? =w.heap[b]?)/\DX (DZ β H<|owns x) w w':=by
 unfold TW at h;split at h
 ·rename_i n cs hsz hcs
  have e2:=λw=>run_sizeOf hsz w
  obtain ⟨c1,c2⟩:=pY hcs hq
  have c3:=pK hcs hqk
  have hlen2:=RL.length c1
  split at h
  ·rename_i k off
   split at h
   ·rename_i b hb
    split at h
    ·rename_i hle
     obtain ⟨hcl,hbp,hl1,hl2⟩:=hle;simp only [T.all] at h
     have hbk:b.k=.cl:=by
      unfold AB.E4 at hcl;split at hcl
      ·assumption
      ·cases hcl
     have hlive:live β k b:=by unfold live;rw [hbk];trivial
     obtain ⟨h1,h2⟩:=hW.blk k b hb;unfold BZ at h1;simp only [hbk] at h1;obtain ⟨cur,hc,hrl⟩:=h1
     have hlen:=RL.length hrl
     simp only [R] at hr
     have hst:=xa P (β k).b off b.t z.cells.toList 0 cur w hc (by simp at hlen;omega) λv hv=>qM<|c2 v hv
     have e3:z.cells.size=n:=by simp at hlen2;omega
     have hne:∀j,j≠(β k).b->(w.setRow (β k).b (cur.toList.take (off+0)++z.cells.toList++cur.toList.drop (off+0+M z.cells.toList)).toArray).heap[j]? =w.heap[j]? :=λj hj=>aDK w _ _ _ hj
     refine ⟨w.setRow (β k).b (cur.toList.take (off+0)++z.cells.toList++cur.toList.drop (off+0+M z.cells.toList)).toArray,by simp [Instr.storeAt,Instr.sureAddr,hr,storeVar,e2,e3,hst],?_,by rw [<-h];simp,λb' hz=>hne b' λe=>hW.Cp k b hb hlive hbp<|e▸hz,⟨rfl,rfl,rfl,Va,λi _ hi=>hne i λe=>hi<|e▸TJ hb hlive hbp⟩⟩
     rw [<-h];refine hW.set hb hlive hbp hbp ⟨AT.setAt h2.1 c3 off,by simp only [hbk]⟩ Va ⟨rfl,rfl,rfl⟩ hne ?_
     unfold BZ;simp only [hbk];refine ⟨_,setRow_heap w (β k).b cur _ b.t _ hc,?_⟩;refine RL.mono (n:=M H) (λ_ _=>rfl) (λ_ h=>h) (λb' hz=>hne b' λe=>hW.Cp k b hb hlive hbp<|e▸hz) _ _ (AT.setAt h2.1 c3 off) ?_
     have:=RL.setAt (β:=β) (Z:=Z) (w:=w) hrl c1 off
     exact QF
    ·cases h
   ·cases h
  ·rename_i k es i j
   split at h
   ·rename_i c0 bt e l hb
    split at h
    ·rename_i hle
     obtain ⟨hes,hl1,hl2⟩:=hle;simp only [T.all] at h;obtain ⟨hi,h⟩:=h;split at h
     ·rename_i d hd
      simp only [T.all] at h;simp only [R] at hr;obtain ⟨hcap,hy⟩:=hr
      have hlive:live β k ⟨c0,bt,.vec e l,X⟩:=hcap
      obtain ⟨h1,h2⟩:=hW.blk k _ hb;simp only [BZ] at h1;split at h1
      ·exact yB
      ·rename_i c hc
       obtain ⟨cur,g1,g2,g3,g4⟩:=h1;subst hes
       have hmul:i*e.n+e.n<=c*e.n:=by
        have:=N6 e.n (show i+1<=c by omega)
        rwa [GC,Sc] at this
       have e3:z.cells.size=n:=by simp at hlen2;omega
       have hzl:M z.cells.toList=n:=by simpa using e3
       have hst:=xa P (β k).b ((β k).o+i*e.n+j) bt z.cells.toList 0 cur w g1 (by rw [hzl];omega) λv hv=>qM<|c2 v hv
       simp only [Zz] at hst;generalize hnew:(cur.toList.take ((β k).o+i*e.n+j)++z.cells.toList++cur.toList.drop ((β k).o+i*e.n+j+M z.cells.toList)).toArray=new at hst
       have hnget:∀p,new[p]? =if p<(β k).o+i*e.n+j then cur[p]? else if p<(β k).o+i*e.n+j+n then z.cells.toList[p-((β k).o+i*e.n+j)]? else cur[p]? :=λp=>by
        rw [<-hnew]
        by_cases q1:p<(β k).o+i*e.n+j
        ·exact aNu
        ·rw [AE q1]
         simp only [Zg]
         by_cases q2:p<(β k).o+i*e.n+j+n
         ·exact aNp
         ·rw [AE q2,GY DD,FP]
          have:(β k).o+i*e.n+j+M z.cells.toList+(p-M (cur.toList.take ((β k).o+i*e.n+j)++z.cells.toList))=p:=by
           simp
           omega
          rw [this]
          simp
       have hnsz:new.size=cur.size:=by
        rw [<-hnew]
        simp
        omega
       have hne:∀q,q≠(β k).b->(w.setRow (β k).b new).heap[q]? =w.heap[q]? :=λq hq=>aDK w _ _ _ hq
       have hZw:∀b',Z b'->(w.setRow (β k).b new).heap[b']? =w.heap[b']? :=λb' hz=>hne b' λe=>hW.Cp k _ hb hlive rfl<|e▸hz
       have hblk:=setRow_heap w (β k).b cur new bt _ g1
       refine ⟨w.setRow (β k).b new,by simp [Instr.storeAt,Instr.sureAddr,hy,storeVar,e2,e3,hst],?_,by rw [<-h];simp,hZw,⟨rfl,rfl,rfl,Va,λq _ hq=>hne q λe=>hq<|e▸TJ hb hlive rfl⟩⟩
       rw [<-h];refine hW.set hb hlive rfl rfl ⟨ak,ak⟩ Va ⟨rfl,rfl,rfl⟩ hne ?_;simp only [BZ,hc];refine ⟨new,hblk,A0,by rw [C3];exact g3,λi' d' hd'=>?_⟩
       by_cases hii:i'=i
       ·subst hii
        have hdd:d'=d:=by
         rw [List.getElem?_set_self<|by exact hi] at hd'
         simpa using hd'.symm
        subst hdd
        have hcells:∃ys,RL β Z w (Bq e<|l.getD i' e.dflt) ys/\∀p,ys[p]? =if p<e.n then cur[(β k).o+i'*e.n+p]? else none:=by
         have hrd:=g4 i' _<|getD_at hi
         refine ⟨((cur.toList.drop<|(β k).o+i'*e.n).take e.n),RL.CU ?_ λp x hx=>?_,λp=>?_⟩
         ·rw [KJ];simp;omega
         ·obtain ⟨v,q1,q2⟩:=X3 (β:=β) e _ _ _ hrd p x hx
          have hp:p<e.n:=by have:=(EE.1 hx).1;rwa [KJ] at this
          refine ⟨v,?_,q2⟩;rw [cell_of_block g1] at q1;rw [LD,AD hp,FP]
          simpa using q1
         ·rw [LD,FP]
          simp
        obtain ⟨ys,y1,y2⟩:=hcells
        have hset:=RL.setAt y1 c1 j
        refine vX (λ_ h=>h) hZw e _ d' _ hd hset _ _ λp v hv=>?_
        rw [cell_of_block hblk,hnget]
        have hyl:M ys=e.n:=by have:=RL.length y1;rw [KJ] at this;exact this
        by_cases p1:p<j
        ·rw [AD A0]
         rw [Ct,Hj DD,aLz p1,y2] at hv;rw [AD A0] at hv;exact hv
        ·by_cases p2:p<j+n
         ·rw [AE A0,AD A0]
          rw [Hj DD,GY DD] at hv;rw [<-hv]
          congr 1
          simp
          omega
         ·rw [AE A0,AE A0]
          rw [GY DD,FP,y2] at hv;split at hv
          ·rw [<-hv]
           congr 1
           simp
           omega
          ·cases hv
       ·rw [Zr<|OX hii] at hd'
        refine RD.cells (λ_ h=>h) hZw e d' _ _ (λp hp=>?_)<|g4 i' d' hd'
        rw [cell_of_block hblk,cell_of_block g1,hnget]
        have hsep:i'*e.n+e.n<=i*e.n\/i*e.n+e.n<=i'*e.n:=by
         rcases QC i' i with hlt|hge
         ·left
          have:=N6 e.n (show i'+1<=i by omega)
          rwa [GC,Sc] at this
         ·right
          have:=N6 e.n (show i+1<=i' by omega)
          rwa [GC,Sc] at this
        split
        ·rfl
        ·rw [AE A0]
     ·cases h
    ·cases h
   ·cases h
  ·cases h
 ·cases h
end Go.Sx
namespace Go.Sx
open Go.Proofs.YtoifmkifedcnnaaGreatDoor
open Go Go.RowKit
variable {P : Program} {G : B5} {Γ : Specs} {β : Nat -> Loc} {Z : Nat -> Prop} {Z0 : Gz} {w w0 : World} {F : List LV} {H : List AB} {a : Act}
def RD.move {Z Z':aWe->Prop}{w w':aWq}(hZ:∀b,Z b->Z' b) (hw:∀b,Z b->w'.heap[b]? =w.heap[b]?):
  ∀(t:Ty) (d:t.D) (b o b' o':aWe),(∀j,j<t.n->w'.cell? ⟨b',o'+j,aj⟩=w.cell? ⟨b,o+j,aj⟩)->RD Z w t d b o->RD Z' w' t d b' o'
 | .int _,_,b,o,b',o',hb,h=>VT
 | .bool,_,b,o,b',o',hb,h=>VT
 | .str,_,b,o,b',o',hb,h=>VT
 | .sl e,l,b,o,b',o',hb,h=>by
  exact aMG
 | .pair x y,d,b,o,b',o',hb,h=>by
  refine ⟨RD.move hZ hw x d.1 b o b' o' (λj hj=>hb j mh) h.1,RD.move hZ hw y d.2 b _ b' _ (λj hj=>?_) h.2⟩
  have:=hb (x.n+j) mh
  grind
def RD.one {Z:aWe->Prop}{w:aWq}:∀(t:Ty) (d:t.D) (b o:aWe),RD Z w t d b o->∀j,j<t.n->∃v,w.cell? ⟨b,o+j,aj⟩=ah v/\K2 v=U
 | .int _,_,b,o,h,j,hj=>by
  exact xh
 | .bool,_,b,o,h,j,hj=>by
  exact xh
 | .str,_,b,o,h,j,hj=>by
  exact xh
 | .sl e,_,b,o,h,j,hj=>by
  simp only [Ty.n] at hj
  have:j=0:=A0
  subst this;obtain ⟨a,cap,h1,_⟩:=h;exact ⟨_,h1,rfl⟩
 | .pair x y,d,b,o,h,j,hj=>by
  simp only [Ty.n] at hj
  by_cases hx:j<x.n
  ·exact RD.one x d.1 b o h.1 j hx
  ·obtain ⟨v,h1,h2⟩:=RD.one y d.2 b (o+x.n) h.2 (j-x.n) A0
   grind
def Ty.n_pos:∀t:Ty,0<t.n
 | .int _=>aN
 | .bool=>aN
 | .str=>aN
 | .sl _=>aN
 | .pair a b=>by have:=Ty.n_pos a;simp only [Ty.n];omega
def aF1 {e:Ty}{l:List e.D}{b o:aWe}(h:∀(i:aWe) (d:e.D),l[i]? =ah d->RD Z w e d b (o+i*e.n)):
  ∃vs:aWv,M vs=M l*e.n/\(∀j,j<M l*e.n->w.cell? ⟨b,o+j,aj⟩=vs[j]?)/\(∀u∈vs,K2 u=U):=by
 have hp:=e.n_pos
 have hch:∀j,∃v,j<M l*e.n->w.cell? ⟨b,o+j,aj⟩=ah v/\K2 v=true:=λj=>by
  by_cases hj:j<M l*e.n
  ·have hi:=Nat.div_lt_of_lt_mul (by rw [Nat.mul_comm];exact hj)
   have hd:=h (j / e.n) _<|getD_at hi
   obtain ⟨v,h1,h2⟩:=RD.one e _ _ _ hd (j%e.n)<|Nat.mod_lt _ hp;refine ⟨v,λ_=>⟨?_,h2⟩⟩
   have:=Nat.div_add_mod j e.n
   grind
  ·exact ⟨undef,λh=>absurd h hj⟩
 obtain ⟨g,hg⟩:=xG hch;refine ⟨(au<|M l*e.n).map g,AI,λj hj=>?_,λu hu=>?_⟩
 ·grind
 ·obtain ⟨j,hj,rfl⟩:=F5.1 hu
  grind
def aFl {Z':aWe->Prop}{w':aWq}(hZ:∀b,Z b->Z' b) (hw:∀b,Z b->w'.heap[b]? =w.heap[b]?) {e:Ty}{l:List e.D}{b o b' o':aWe}(h:∀(i:aWe) (d:e.D),l[i]? =ah d->RD Z w e d b (o+i*e.n)) {vs:aWv}
  (hv:∀j,j<M l*e.n->w.cell? ⟨b,o+j,aj⟩=vs[j]?) (hc:∀j,j<M l*e.n->w'.cell? ⟨b',o'+j,aj⟩=vs[j]?):∀(i:aWe) (d:e.D),l[i]? =ah d->RD Z' w' e d b' (o'+i*e.n):=λi d hd=>by
 have hi:=(EE.1 hd).1
 refine RD.move hZ hw e d b (o+i*e.n) b' (o'+i*e.n) (λj hj=>?_)<|h i d hd
 have hlt:i*e.n+j<M l*e.n:=by
  have:=N6 e.n (show i+1<=M l by omega)
  rw [GC,Sc] at this;omega
 grind
def aqs {e:Ty}{x:LV}{q:List e.D}{y:aWx}(hW:RW G w0 Z0 Z β H w) (h:(FX H e x).all λz=>z=q) (hr:R β Z w x y):
  ∃a c,y=.slice a (M q) c/\(0<M q->∃b o,a=ah ⟨b,o,aj⟩/\∀(i:aWe) (d:e.D),q[i]? =ah d->RD Z w e d b (o+i*e.n)):=by
 have gen:∀x,N2 e x=ah q->R β Z w x y->∃a c,y=.slice a (M q) c/\(0<M q->∃b o,a=ah ⟨b,o,aj⟩/\∀(i:aWe) (d:e.D),q[i]? =ah d->RD Z w e d b (o+i*e.n)):=λx hx hr=>by
  have h1:=vV hx hr
  obtain ⟨a,c,h1,_,h3⟩:=h1;refine ⟨a,c,h1,λhn=>?_⟩
  grind
 have hdx:∀ {x:LV},(match N2 e x with|some l=>(T.ok l:T<|List e.D) |none=> .no).all (λz=>z=q)->N2 e x=ah q:=λ{x} h=>by
  split at h
  ·rename_i hd;simp only [T.all] at h;rw [hd,h]
  ·cases h
 cases x with
 | os k es off n=>
  simp only [FX] at h;split at h
  ·rename_i c0 bt e' l pp hb
   split at h
   ·rename_i hes
    split at h
    ·rename_i he _
     subst he;simp only [T.all,Kl] at h;obtain ⟨hle,h⟩:=h;subst h
     have hlen:M ((l.drop off).take n)=n:=A8
     rw [hlen];simp only [R] at hr;split at hr
     ·obtain ⟨rfl,_,hy⟩:=hr
      grind
     ·rename_i c hc
      obtain ⟨h1,a,h2,h3⟩:=hr;refine ⟨ah a,c-off,h2,λhn=>?_⟩
      have h4:=(hW.blk k _ hb).1
      simp only [BZ,hc] at h4;obtain ⟨cs,g1,g2,g3,g4⟩:=h4;refine ⟨_,_,by rw [h3 A0],λi d hd=>?_⟩
      rw [LD] at hd;split at hd
      ·rw [FP] at hd
       have:=g4 (off+i) d hd
       rw [<-hes];rw [GC,<-Hp] at this;exact this
      ·cases hd
    ·cases h
   ·cases h
  ·cases h
 |v x=>simp only [FX] at h;exact gen _ (hdx h) hr
 |bl x=>simp only [FX] at h;exact gen _ (hdx h) hr
 |ki k n=>simp only [FX] at h;exact gen _ (hdx h) hr
 |own k off=>simp only [FX] at h;exact gen _ (hdx h) hr
 |agg l=>simp only [FX] at h;exact gen _ (hdx h) hr
 |AO l=>simp only [FX] at h;exact gen _ (hdx h) hr
 |fn f l=>simp only [FX] at h;exact gen _ (hdx h) hr
 |fb f l=>simp only [FX] at h;exact gen _ (hdx h) hr
 |xq n f=>simp only [FX] at h;exact gen _ (hdx h) hr
 |xl e l=>simp only [FX] at h;exact gen _ (hdx h) hr
 |op k es i j=>simp only [FX] at h;exact gen _ (hdx h) hr
 |om k=>simp only [FX] at h;exact gen _ (hdx h) hr
 |mp kd ks vs=>simp only [FX] at h;exact gen _ (hdx h) hr
 |oc k es off n c=>simp only [FX] at h;exact gen _ (hdx h) hr
 |CO k=>simp only [FX] at h;exact gen _ (hdx h) hr
 |junk=>simp only [FX] at h;exact gen _ (hdx h) hr
def oy {t e:aWu}{ty:Ty}{m FM:aWe}(h:PF P t=ah (e,ty,m,FM)):P.underlying t=ah (.slice e)/\ty.n=m/\∃i,P.info? e=ah i/\i.size=m/\i.bytes=FM:=by
 unfold PF at h;split at h
 ·rename_i e' hu
  split at h
  ·rename_i ty' m' b' h1 h2 h3
   split at h
   ·rename_i hm
    simp only [Ai,B0] at h;obtain ⟨rfl,rfl,rfl,rfl⟩:=h;refine ⟨hu,hm.1,?_⟩;unfold HN at h2;unfold aTj at h3;cases hi:P.info? e' with
    |none=>simp [hi] at h2
    |some i=>simp [hi] at h2 h3;exact ⟨i,rfl,h2,h3⟩
   ·cases h
  ·cases h
 ·cases h
def aEw {e:Ty}{x:LV}{q:List e.D}{y:aWx}{tx e':aWu}(hk:P.underlying tx=ah (.slice e')) (hW:RW G w0 Z0 Z β H w) (h:(FX H e x).all λz=>z=q) (hr:R β Z w x y):
  ∃news:aWv,Src P e.n tx y (M q) news w/\∀(Z':aWe->Prop) (w':aWq) (b' o':aWe),(∀b,Z b->Z' b)->(∀b,Z b->w'.heap[b]? =w.heap[b]?)->(∀j,j<M news->w'.cell? ⟨b',o'+j,aj⟩=news[j]?)->∀(i:aWe) (d:e.D),q[i]? =ah d->RD Z' w' e d b' (o'+i*e.n):=by
 obtain ⟨a,c,h1,h2⟩:=aqs hW h hr
 by_cases hn:0<M q
 ·obtain ⟨b,o,h3,h4⟩:=h2 hn
  obtain ⟨vs,v1,v2,v3⟩:=aF1 h4;refine ⟨vs,?_,λZ' w' b' o' hZ hw hc=>aFl hZ hw h4 v2 λj hj=>hc j A0⟩
  rw [h1,h3]
  exact Src.ofSlice w hk ⟨b,o,aj⟩ _ c vs v1 (λj u hu=>by
   have hj:j<M q*e.n:=A8
   rw [addr_add,v2 j hj,hu]) λu hu=>qM<|v3 u hu
 ·have hq:q=[]:=M8.1 A0
  subst hq;refine ⟨[],?_,λZ' w' b' o' hZ hw hc i d hd=>A8⟩
  rw [h1];cases a with
  |none=>exact Src.ofNil w hk c
  |some a=>exact Src.ofSlice w hk a 0 c [] AI (λj u hu=>A8) λu hu=>by cases hu
def afR {ty:Ty}{z:aWx}{d:ty.D}(hd:Jz ty (z.cells.toList.map .v)=ah d) {w':aWq}{b o:aWe}(hc:∀(j:aWe) v,z.cells.toList[j]? =ah v->w'.cell? ⟨b,o+j,aj⟩=ah v):RD Z w' ty d b o:=
 vX (Z:=Z) (w:=w') (β:=λ_=>default) (λ_ h=>h) (λ_ _=>rfl) ty _ d _ hd (Uk _) b o hc
def ae8 {t:aWu} {n c lv:LV} {vn vc:aWx} {H':aWi} (hW:RW G w0 Z0 Z β H w) (h:(UC P H t n c).all λq=>q=(lv,H')) (hn:R β Z w n vn) (hc:R β Z w c vc):
  ∃w' v,(Instr.makeSlice t vn vc).run P w=.ok v w'/\Below w.heap.size w w'/\∃β',(∀k,k<M H->β' k=β k)/\RW G w0 Z0 Z β' H' w'/\R β' Z w' lv v/\okV (M H') lv/\M H'=M H+1/\(β'<|M H).b=w.heap.size:=by
 unfold UC at h;split at h
 ·rename_i e ty m FM n' c' he hn' hc'
  obtain ⟨hu,htn,i,hi,him,hib⟩:=oy he;split at h
  ·rename_i z hz
   split at h
   ·rename_i d hd
    split at h
    ·rename_i hzs
     simp only [T.all] at h;obtain ⟨⟨h0,h1,h2,h3⟩,h4⟩:=h;obtain ⟨rfl,rfl⟩:=h4
     have hzi:i.zero=ah z:=aP7
     have hrun:=run_make (P:=P) w t e i z hu hi hzi J J n' c' h0 h1 (by rw [hib];simpa using h2) A0
     rw [Ck hn' hn,Ck hc' hc]
     have hbw:Below w.heap.size w (w.alloc<|.cells (madeCells z.cells<|c'.toNat*i.size) e):=(Below.refl _ _).alloc (At _) _
     have hblk:(w.alloc<|.cells (madeCells z.cells<|c'.toNat*i.size) e).heap[w.heap.size]? =ah (.cells (madeCells z.cells<|c'.toNat*i.size) e (0,0)):=by
      exact aD
     obtain ⟨β',b1,b2,b3⟩:=(hW.same hbw).Km (ℓ:=⟨w.heap.size,0,ah c'.toNat⟩) (nb:=⟨[],e,.vec ty<|aq n'.toNat d,X⟩) rfl ⟨ak,ak⟩
      (λ_=>⟨λhz=>aR,hW.below.size,λj bj hj lj e=>Sq⟩) (λβ' g1 g2=>by
       simp only [BZ,g2];refine ⟨_,hblk,by simp [madeCells,htn,him],DD,λj d' hd'=>?_⟩
       have hj:j<n'.toNat:=A8
       have hdd:d'=d:=A8
       subst hdd;refine afR hd λp v hv=>?_
       have hp:p<m:=A8
       rw [cell_of_block hblk]
       have hlt:0+j*ty.n+p<c'.toNat*i.size:=by
        have:=N6 m (show j+1<=c'.toNat by omega)
        rw [GC,Sc] at this;rw [htn,him];omega
       rw [madeCells]
       have hv':z.cells[p]? =ah v:=by simpa using hv
       rw [htn,Ek] at hlt|-;simp only [Array.getElem?_map,Array.getElem?_range];rw [AD hlt];simp only [Jh,hzs,Nat.mul_comm j m,Nat.mul_add_mod,Nat.mod_eq_of_lt hp];rw [getElem!_def,hv'])
     exact ⟨_,_,hrun,hbw,β',b1,b3,by simp only [R,b2];exact ⟨DD,⟨w.heap.size,0,aj⟩,AI,λ_=>AI⟩,ME,AI,Vg⟩
    ·cases h
   ·cases h
  ·cases h
 ·cases h
def ae3 {t:aWu}{lv:LV}{H':aWi}(hW:RW G w0 Z0 Z β H w) (h:(X4 P H t).all λq=>q=(lv,H')):
  ∃w' v,(Instr.buildSlice t 0 #[]).run P w=.ok v w'/\Below w.heap.size w w'/\∃β',(∀k,k<M H->β' k=β k)/\RW G w0 Z0 Z β' H' w'/\R β' Z w' lv v/\okV (M H') lv/\M H'=M H+1/\(β'<|M H).b=w.heap.size:=by
 unfold X4 at h;split at h
 ·rename_i e ty m FM he
  obtain ⟨hu,htn,i,hi,him,hib⟩:=oy he;obtain ⟨rfl,rfl⟩:=h
  have hbw:Below w.heap.size w (w.alloc<|.cells #[] e):=(Below.refl _ _).alloc (At _) _
  have hblk:(w.alloc<|.cells #[] e).heap[w.heap.size]? =ah (.cells #[] e (0,0)):=by
   exact aD
  obtain ⟨β',b1,b2,b3⟩:=(hW.same hbw).Km (ℓ:=⟨w.heap.size,0,ah 0⟩) (nb:=⟨[],e,.vec ty [],X⟩) rfl ⟨ak,ak⟩
   (λ_=>⟨λhz=>aR,hW.below.size,λj bj hj lj e=>Sq⟩) (λβ' g1 g2=>by
    simp only [BZ,g2];exact ⟨_,hblk,AI,AI,λj d hd=>A8⟩)
  have hsz:HN P e=ah m:=by unfold HN;simp [hi,him]
  refine ⟨_,.slice (ah ⟨w.heap.size,0,aj⟩) 0 0,?_,hbw,β',b1,b3,by simp only [R,b2];exact ⟨AI,⟨w.heap.size,0,aj⟩,rfl,λh=>A8⟩,ME,AI,Vg⟩
  have e1:=λw=>run_sizeOf hsz w
  have n1:¬(0>2^24):=Ab
  have ha:∀f:aWe->aWx,(Array.range 0).map f=#[]:=λf=>AI
  simp only [Instr.buildSlice,lM,CZ hu,lq,e1,mF,xZ,newRow,AE n1,Bp,ha];rfl
 ·cases h
def RW.kill (hW:RW G w0 Z0 Z β H w) (k:aWe) (e:aWu):RW G w0 Z0 Z β (H.set k ⟨[],e,.dead,X⟩) w:=by
 have old:∀i bi,(H.set k ⟨[],e,.dead,X⟩)[i]? =ah bi->(¬live β i bi/\BZ β Z w i bi/\okB (M H) bi)\/H[i]? =ah bi:=λi bi h=>by
  rw [IN] at h;split at h
  ·rename_i e'
   split at h
   ·simp only [Ai] at h;subst h;exact .inl ⟨λh=>h,ak,ak,ak⟩
   ·cases h
  ·exact .inr h
 refine ⟨hW.below,hW.Bc,hW.Et,λi bi hi li pi=>?_,λi bi hi li pi=>?_,λi bi hi li=>?_,λi j bi bj hi hj li lj pi e=>?_,λi bi hi=>?_,hW.Cb,λp hp=>⟨(hW.gh p hp).1,aP4⟩,hW.Cr⟩
 ·rcases old i bi hi with h|h
  ·grind
  ·exact hW.Cp i bi h li pi
 ·rcases old i bi hi with h|h
  ·grind
  ·exact hW.GL i bi h li pi
 ·rcases old i bi hi with h|h
  ·grind
  ·exact hW.low i bi h li
 ·rcases old i bi hi with h|h
  ·grind
  ·rcases old j bj hj with h'|h'
   ·grind
   ·exact hW.inj i j bi bj h h' li lj pi e
 ·rw [C3]
  rcases old i bi hi with h|h
  ·grind
  ·exact hW.blk i bi h
def RW.loose {w':aWq}{B:aWe}(hW:RW G w0 Z0 Z β H w) (hB:w0.heap.size<=B) (hBZ:¬Z B) (hBo:∀j bj,H[j]? =ah bj->live β j bj->(β j).b≠B)
  (hsz:w'.heap.size=w.heap.size) (hos:w'.os=w.os/\w'.tape=w.tape/\w'.output=w.output) (hne:∀j,j≠B->w'.heap[j]? =w.heap[j]?):RW G w0 Z0 Z β H w':=by
 have hw:∀b',Z b'->w'.heap[b']? =w.heap[b']? :=λb' hz=>hne b' λe=>hBZ<|e▸hz
 refine ⟨?_,λb' hz=>aP3,hW.Et,hW.Cp,hW.GL,hW.low,hW.inj,λi bi hi=>?_,hW.Cb.mono (λ_ h=>h) hw,λp hp=>⟨R.mono (n:=M H) (λ_ _=>rfl) (λ_ h=>h) hw _ _ (hW.gh p hp).2 (hW.gh p hp).1,(hW.gh p hp).2⟩,λD hD=>⟨(hW.Cr D hD).1,aV⟩⟩
 ·exact hW.below.trans ⟨hos.1,hos.2.1,hos.2.2,mE hsz.symm,λi hi=>hne i A0⟩
 ·obtain ⟨g1,g2⟩:=hW.blk i bi hi
  exact ⟨g1.keep (λ_ _=>rfl) (λ_ h=>h) hw rfl (λli=>hne _<|hBo i bi hi li) g2,g2⟩
def adX (z:aWz) (n:aWe):(Builtin.zeroCells z n).size=n*z.size:=by simp [Builtin.zeroCells]
def Back (Z:aWe->Prop) (w:aWq) (e:Ty) (l:List e.D) (vs:aWv):Prop:=
 ∀(Z':aWe->Prop) (w':aWq) (b' o':aWe),(∀b,Z b->Z' b)->(∀b,Z b->w'.heap[b]? =w.heap[b]?)->(∀j,j<M vs->w'.cell? ⟨b',o'+j,aj⟩=vs[j]?)->∀(i:aWe) (d:e.D),l[i]? =ah d->RD Z' w' e d b' (o'+i*e.n)
def aET (hW:RW G w0 Z0 Z β H w) {t tx ty' e:aWu}{i:TypeInfo}{z:aWx}(hu:P.underlying t=ah (.slice e)) (hi:P.info? e=ah i) (hz:i.zero=ah z) {ty:Ty}(hts:i.size=ty.n) (hzs:z.cells.size=ty.n)
  {base:Option Addr} {sCap:aWe} {olds:aWv} {lo q:List ty.D} (hold:(Builtin.firstCells i.size (M lo)<|.slice base (M lo) sCap).run P w.drew=.ok olds.toArray w.drew) (hol:M olds=M lo*ty.n)
  (ob:Back Z w ty lo olds) {y:aWx} {news:aWv} (hs:Src P ty.n tx y (M q) news w) (nb:Back Z w ty q news) (hg:sCap<M lo+M q)
  (h63:((M lo+M q:aWe):Y)<2^62) (hby:((M lo+M q:aWe):Y)*i.bytes<=2^47):
  ∃w' v,(Builtin.append_ #[t,tx] ty' #[.slice base (M lo) sCap,y]).run P w=.ok v w'/\Below w.heap.size w w'/\∃β',(∀k,k<M H->β' k=β k)/\RW G w0 Z0 Z β' (H++[⟨[],e,.vec ty<|lo++q,X⟩]) w'/\
   R β' Z w' (.os (M H) ty.n 0<|M lo+M q) v/\(β'<|M H).b=w.heap.size:=by
 have hnl:=hs.newsLen
 have hrun:=run_append_grow_src (P:=P) w t tx ty' e i z hu hi hz base (M lo) sCap olds hold y (M q) news (by rw [hts];exact hs) hg A0<|growslice_fits hg (by
  omega)
 have hcap:=grownCap_ge w (M lo+M q) sCap e
 generalize grownCap w (M lo+M q) sCap e=cap at hrun hcap;generalize hcs:((olds++news).toArray++Builtin.zeroCells z.cells (cap-(M lo+M q)))=cs at hrun
 have hbw:Below w.heap.size w (w.drew.alloc<|.cells cs e):=⟨rfl,rfl,rfl,by simp [World.alloc],λk hk=>heap_alloc_old w.drew _ hk⟩
 have hblk:(w.drew.alloc<|.cells cs e).heap[w.heap.size]? =ah (.cells cs e (0,0)):=heap_alloc_new w.drew _
 have hw:∀b,Z b->(w.drew.alloc<|.cells cs e).heap[b]? =w.heap[b]? :=λb hz=>EG hbw<|hW.Bc b hz
 have hc1:∀j,j<M olds->cs[j]? =olds[j]? :=λj hj=>by
  rw [<-hcs,xD DD];simp only [Zg]
  grind
 have hc2:∀j,j<M news->cs[M olds+j]? =news[j]? :=λj hj=>by
  rw [<-hcs,xD DD];simp only [Zg];rw [GY A0]
  congr 1
  omega
 obtain ⟨β',b1,b2,b3⟩:=(hW.same hbw).Km (ℓ:=⟨w.heap.size,0,ah cap⟩) (nb:=⟨[],e,.vec ty<|lo++q,X⟩) rfl ⟨ak,ak⟩
  (λ_=>⟨λhz=>A8,hW.below.size,λj bj hj lj e=>Sq⟩) (λβ' g1 g2=>by
   simp only [BZ,g2];refine ⟨cs,hblk,?_,by rw [BL];omega,λj d hd=>?_⟩
   ·rw [<-hcs]
    have h1:cap*ty.n=(M lo+M q)*ty.n+(cap-(M lo+M q))*ty.n:=by
     rw [<-GC];congr 1;omega
    simp only [Array.size_append,adX,hzs,List.size_toArray,BL,hol,hnl];rw [h1,GC];omega
   ·by_cases hj:j<M lo
    ·rw [Hj hj] at hd
     exact ob Z _ w.heap.size 0 (λ_ h=>h) hw (λp hp=>by rw [cell_of_block hblk,Ek,hc1 p hp]) j d hd
    ·rw [GY A0] at hd
     have:=nb Z _ w.heap.size (0+M olds) (λ_ h=>h) hw (λp hp=>by rw [cell_of_block hblk,Ek,hc2 p hp]) _ d hd
     rw [hol,Ek,<-GC] at this;rw [show M lo+(j-M lo)=j by omega] at this
     rw [Ek];exact this)
 exact ⟨_,_,hrun,hbw,β',b1,b3,aOA,Vg⟩
def size_setCells (b:aWe):∀(vs:aWv) (o:aWe) (w:aWq),(w.setCells b o vs).heap.size=w.heap.size
 | [],_,_=>rfl
 |v::r,o,w=>by rw [World.setCells,size_setCells b r];simp
def ad2 (b:aWe):∀(vs:aWv) (o:aWe) (w:aWq),(w.setCells b o vs).tape=w.tape
 | [],_,_=>rfl
 |v::r,o,w=>by rw [World.setCells,ad2 b r];rfl
def ade (w:aWq) (g o:aWe) (vs:aWv) {i:aWe}(hne:i≠g):(w.setCells g o vs).heap[i]? =w.heap[i]? :=by
 by_cases hi:i<w.heap.size
 ·exact World.heap_setCells_other w g o vs hi hne
 ·rw [xI (by rw [size_setCells];omega),xI A0]
def acu (b:aWe) (t:aWu):∀(vs:aWv) (o:aWe) (w:aWq) (cs:aWz),w.heap[b]? =ah (.cells cs t (0,0))->∃cs',(w.setCells b o vs).heap[b]? =ah (.cells cs' t (0,0))/\cs'.size=cs.size
 | [],_,w,cs,h=>⟨cs,h,rfl⟩
 | v::r,o,w,cs,h=>by
  have h1:(w.setCell ⟨b,o,aj⟩ v).heap[b]? =ah (.cells (cs.setIfInBounds o v) t (0,0)):=by
   simp [World.setCell,Array.getElem?_modify,h]
  obtain ⟨cs',h2,h3⟩:=acu b t r (o+1) _ _ h1;exact ⟨cs',h2,A8⟩
def aeM (hW:RW G w0 Z0 Z β H w) {t tx ty' e:aWu}{i:TypeInfo}(hu:P.underlying t=ah (.slice e)) (hkx:∃e',P.underlying tx=ah (.slice e')) (hi:P.info? e=ah i) {ty:Ty}(him:i.size=ty.n)
  {B O c:aWe} {ad:Addr} {lo q:List ty.D} {cs:aWz} (g1:w.heap[B]? =ah (.cells cs e (0,0))) (g2:O+c*ty.n<=cs.size) (had:0<c->ad=⟨B,O,aj⟩)
  (hB0:w0.heap.size<=B) (hBZ:¬Z B) (hBo:∀j bj,H[j]? =ah bj->live β j bj->(β j).b≠B)
  (olde:∀(j:aWe) (d:ty.D),lo[j]? =ah d->RD Z w ty d B (O+j*ty.n)) {y:aWx} {news:aWv} (hs:Src P ty.n tx y (M q) news w) (nb:Back Z w ty q news) (hroom:M lo+M q<=c):
  ∃w' v,(Builtin.append_ #[t,tx] ty' #[.slice (ah ad) (M lo) c,y]).run P w=.ok v w'/\(w'.os=w.os/\w'.tape=w.tape/\w'.output=w.output/\w'.heap.size=w.heap.size)/\(∀j,j≠B->w'.heap[j]? =w.heap[j]?)/\
   ∃β',(∀k,k<M H->β' k=β k)/\RW G w0 Z0 Z β' (H++[⟨[],e,.vec ty<|lo++q,X⟩]) w'/\R β' Z w' (.os (M H) ty.n 0<|M lo+M q) v/\(β'<|M H).b=B:=by
 have hnl:=hs.newsLen
 have hmr:M lo*ty.n+M q*ty.n<=c*ty.n:=by rw [<-GC];exact N6 _ hroom
 have hrun:(Builtin.append_ #[t,tx] ty' #[.slice (ah ad) (M lo) c,y]).run P w=.ok (.slice (ah ad) (M lo+M q) c) (w.setCells B (O+M lo*ty.n) news):=by
  by_cases hc0:0<c
  ·rw [had hc0]
   have:=run_append_room_src (P:=P) w t tx ty' e i hu hi B O (M lo) c y (M q) news (by rw [him];exact hs) hroom (λj hj=>by
    rw [cell_of_block g1,him]
    have:O+M lo*ty.n+j<cs.size:=A0
    simp [this]) λj hj=>adW g1 _
   rw [him] at this;exact this
  ·have hn0:M lo=0:=A0
   have hq0:M q=0:=A0
   have hnn:news=[]:=M8.1 (by rw [hnl,hq0];simp)
   have hl:=hs.len
   have hc:=hs.cells
   rw [hq0] at hl hc;subst hnn;rw [hq0,hn0];obtain ⟨e',hk⟩:=hkx
   simp [Builtin.append_,CZ hu,CZ hk,sizeOf,typeInfo,hi,hl,him,hc,World.setCells,storeCells]
 have hne:∀j,j≠B->(w.setCells B (O+M lo*ty.n) news).heap[j]? =w.heap[j]? :=λj hj=>ade w _ _ _ hj
 have hZw:∀b',Z b'->(w.setCells B (O+M lo*ty.n) news).heap[b']? =w.heap[b']? :=λb' hz=>hne b' λe=>hBZ<|e▸hz
 have hin:=World.cell?_setCells_in B news (O+M lo*ty.n) w (λj hj=>by
  rw [cell_of_block g1]
  have:O+M lo*ty.n+j<cs.size:=A0
  simp [this])
 have hout:=λj (hj:j<O+M lo*ty.n)=>World.cell?_setCells_out B news (O+M lo*ty.n) w ⟨B,j,aj⟩ λ_ _=> .inl hj
 obtain ⟨cs',q1,q2⟩:=acu B e news (O+M lo*ty.n) w cs g1
 have hos:=World.os_setCells w B (O+M lo*ty.n) news
 have hot:=World.output_setCells w B (O+M lo*ty.n) news
 have htp:=ad2 B news (O+M lo*ty.n) w
 have hsz:=size_setCells B news (O+M lo*ty.n) w
 generalize w.setCells B (O+M lo*ty.n) news=w' at hrun hne hZw hin hout q1 hos hot htp hsz
 have hW2:=hW.loose hB0 hBZ hBo hsz ⟨hos,htp,hot⟩ hne
 obtain ⟨β',b1,b2,b3⟩:=hW2.Km (ℓ:=⟨B,O,ah c⟩) (nb:=⟨[],e,.vec ty<|lo++q,X⟩) rfl ⟨ak,ak⟩ (λ_=>⟨hBZ,hB0,hBo⟩) (λβ' f1 f2=>by
  simp only [BZ,f2];refine ⟨cs',q1,A0,by rw [BL];exact hroom,λj d hd=>?_⟩
  by_cases hj:j<M lo
  ·rw [Hj hj] at hd
   refine RD.move (λ_ h=>h) hZw ty d _ _ _ _ (λp hp=>?_)<|olde j d hd
   have:=N6 ty.n (show j+1<=M lo by omega)
   rw [GC,Sc] at this;exact hout _ A0
  ·rw [GY A0] at hd
   have:=nb Z w' B (O+M lo*ty.n) (λ_ h=>h) hZw (λp hp=>by rw [hin p hp,Dg hp]) _ d hd
   rw [Hp O,<-GC,show M lo+(j-M lo)=j by omega] at this
   exact this)
 refine ⟨w',_,hrun,⟨hos,htp,hot,hsz⟩,hne,β',b1,b3,?_,Vg⟩;simp only [R,b2]
 grind
def T.B8 {α γ:Type}{t:T α}{k:α->T γ}{y:γ}(h:(t.bind k).all λz=>z=y):∃x,t.all (λz=>z=x)/\(k x).all (λz=>z=y):=by
 rw [T.all_bind] at h;obtain ⟨x,h1,h2⟩:=T.pick h
 grind
def adn {t tx ty':aWu} {x y lv:LV} {vx vy:aWx} {H':aWi} (hW:RW G w0 Z0 Z β H w) (h:(LR P H t tx x y).all λq=>q=(lv,H')) (hx:R β Z w x vx) (hy:R β Z w y vy):
  ∃w' v,(Builtin.append_ #[t,tx] ty' #[vx,vy]).run P w=.ok v w'/\DX (DZ β H<|owns x) w w'/\(∀b,Z b->w'.heap[b]? =w.heap[b]?)/\∃β',(∀k,k<M H->β' k=β k)/\RW G w0 Z0 Z β' H' w'/\R β' Z w' lv v/\okV (M H') lv/\
   (M H')=M H+1/\(w.heap.size<=(β'<|M H).b\/(β'<|M H).b∈DZ β H (owns x)):=by
 unfold LR at h;split at h
 ·rename_i e ty m FM he
  obtain ⟨hu,htn,i,hi,him,hib⟩:=oy he;split at h
  ·rename_i e2 z hkx hz
   have hzi:i.zero=ah z:=aP7
   split at h
   ·rename_i hzs
    obtain ⟨q,hq,hnew⟩:=T.B8 h
    clear h
    have h:=hnew
    clear hnew
    ·obtain ⟨news,hs,nb⟩:=aEw hkx hW hq hy
     have hnl:=hs.newsLen
     subst htn
     have nil:∀(H1:aWi),RW G w0 Z0 Z β H1 w->(M q:Y)*FM<=2^47->(M q:Y)<2^62->
       ∃w' v,(Builtin.append_ #[t,tx] ty' #[.slice aj 0 0,vy]).run P w=.ok v w'/\Below w.heap.size w w'/\∃β',(∀k,k<M H1->β' k=β k)/\RW G w0 Z0 Z β' (H1++[⟨[],e,.vec ty q,X⟩]) w'/\R β' Z w' (.os (M H1) ty.n 0<|M q) v/\(β'<|M H1).b=w.heap.size:=λH1 hW1 hby h62=>by
      by_cases hq0:0<M q
      ·have:=aET (P:=P) (ty':=ty') hW1 hu hi hzi him hzs (base:=aj) (sCap:=0) (olds:=[]) (lo:=[]) (q:=q) (by simpa using run_firstCells_none (P:=P) w.drew i.size 0 0 0) AI (λ_ _ _ _ _ _ _ i d hd=>by simp at hd) hs nb (by simpa using hq0) (by simpa using h62) (by rw [hib];simpa using hby)
       exact QF
      ·have hqn:q=[]:=M8.1 A0
       subst hqn
       have hn0:news=[]:=M8.1<|by simpa using hnl
       subst hn0;obtain ⟨β',b1,b2,b3⟩:=hW1.Km (ℓ:=⟨w.heap.size,0,aj⟩) (nb:=⟨[],e,.vec ty [],X⟩) rfl ⟨ak,ak⟩ (λhl=>absurd rfl hl) λβ' g1 g2=>yU
       refine ⟨w,.slice aj 0 0,?_,Below.refl _ _,β',b1,b3,by simp [R,b2],Vg⟩
       have hl:=hs.len
       have hc:=hs.cells
       simp only [Bt] at hl hc
       simp [Builtin.append_,CZ hu,CZ hkx,sizeOf,typeInfo,hi,hl,him,hc]
     split at h
     ·simp only [T.all] at h
      obtain ⟨⟨h1,h2⟩,h3⟩:=h;simp only [B0] at h3;obtain ⟨rfl,rfl⟩:=h3;simp only [R] at hx;subst hx;obtain ⟨w',v,r1,r2,β',r3,r4,r5,r6⟩:=nil H hW h1 h2;exact ⟨w',v,r1,⟨r2.os,r2.tape,r2.output,r2.size,λk hk _=>r2.block k hk⟩,λb hz=>EG r2<|hW.Bc b hz,β',r3,r4,r5,ME,AI,.inl A0⟩
     ·rename_i k es off n
      split at h
      ·rename_i c0 bt e' l hb
       split at h
       ·rename_i hee _
        have hee':=hee.symm
        subst hee';split at h
        ·rename_i hes
         obtain ⟨rfl,rfl⟩:=hes;simp only [T.all] at h;obtain ⟨⟨hlen,hby,h62⟩,h3⟩:=h;simp only [B0,Kl] at h3;obtain ⟨rfl,rfl⟩:=h3
         have hkl:k<M H:=(EE.1 hb).1
         have hW1:=hW.kill k bt
         have hblk:=(hW.blk k _ hb).1
         simp only [R] at hx;split at hx
         ·rename_i hcap
          obtain ⟨rfl,rfl,rfl⟩:=hx;simp only [BZ,hcap] at hblk;subst hblk;obtain ⟨w',v,r1,r2,β',r3,r4,r5,r6⟩:=nil _ hW1 (by simpa using hby)<|by simpa using h62
          simp only [C3] at r3 r5 r6;exact ⟨w',v,r1,⟨r2.os,r2.tape,r2.output,r2.size,λk hk _=>r2.block k hk⟩,λb hz=>EG r2<|hW.Bc b hz,β',r3,by simpa using r4,by simpa using r5,ME,AI,.inl A0⟩
         ·rename_i c hcap
          obtain ⟨hoc,ad,hvx,had⟩:=hx;subst hvx;simp only [BZ,hcap] at hblk;obtain ⟨cs,g1,g2,g3,g4⟩:=hblk
          have hlive:live β k ⟨c0,bt,.vec ty l,X⟩:=by simp [live,hcap]
          have hB0:=hW.low k _ hb hlive
          have hBZ:=hW.Cp k _ hb hlive rfl
          have hBo:∀j bj,(H.set k ⟨[],bt,.dead,X⟩)[j]? =ah bj->live β j bj->(β j).b≠(β k).b:=λj bj hj lj e=>by
           rw [IN] at hj;split at hj
           ·first
            | (split at hj
               ·simp only [Ai] at hj;subst hj;exact lj
               ·cases hj)
            |(simp only [Ai] at hj;subst hj;exact lj)
           ·rename_i hne
            exact hne<|hW.inj k j _ bj hb hj hlive lj rfl e.symm
          have olde:∀(j:aWe) (d:ty.D),(l.drop off)[j]? =ah d->RD Z w ty d (β k).b ((β k).o+off*ty.n+j*ty.n):=λj d hd=>by
           rw [FP] at hd
           have:=g4 (off+j) d hd
           rwa [GC,<-Hp] at this
          have hln:M (l.drop off)=n:=DD
          have hmul:off*ty.n+(c-off)*ty.n=c*ty.n:=by rw [<-GC];congr 1;omega
          by_cases hroom:n+M q<=c-off
          ·--in place
           have hr:=aeM (P:=P) (ty':=ty') hW1 hu ⟨_,hkx⟩ hi him (B:=(β k).b) (O:=(β k).o+off*ty.n) (c:=c-off) (ad:=ad) (lo:=l.drop off) (q:=q) g1 A0 had hB0 hBZ hBo olde hs nb (by rw [hln];exact hroom)
           rw [hln] at hr;obtain ⟨w',v,r1,⟨r2,r3,r4,r5⟩,r6,β',r7,r8,r9,r10⟩:=hr;simp only [C3] at r7 r9 r10;exact ⟨w',v,r1,⟨r2,r3,r4,A0,λj _ hj=>r6 j λe=>hj<|e▸TJ hb hlive rfl⟩,λb' hz=>r6 b' λe=>hBZ<|e▸hz,β',r7,r8,r9,ME,AI,.inr (by rw [r10];exact TJ hb hlive rfl)⟩
          ·--a new row
           obtain ⟨olds,o1,o2,o3⟩:=aF1 olde
           have hold:(Builtin.firstCells i.size n<|.slice (ah ad) n<|c-off).run P w.drew=.ok olds.toArray w.drew:=by
            by_cases hc0:0<c-off
            ·rw [had hc0,him]
             refine run_firstCells_some (P:=P) w.drew ty.n n _ n (c-off) olds (by rw [o1,hln]) λj v hv=>?_
             have hj:j<M (l.drop off)*ty.n:=by have:=(EE.1 hv).1;omega
             rw [addr_add]
             have:=o2 j hj
             rw [hv] at this;exact this
            ·have hn0:n=0:=A0
             have:olds=[]:=M8.1 (by rw [o1,hln,hn0];simp)
             rw [this,hn0]
             simp [Builtin.firstCells,loadCells,loadCellsFrom]
           have hgr:=aET (P:=P) (ty':=ty') hW1 hu hi hzi him hzs (base:=ah ad) (sCap:=c-off) (olds:=olds) (lo:=l.drop off) (q:=q) (by rw [hln];exact hold) o1 (λZ' w' b' o' hZ hw hc=>aFl hZ hw olde o2 λj hj=>hc j A0) hs nb (by rw [hln];omega) (by rw [hln];exact h62) (by rw [hln,hib];exact hby)
           rw [hln] at hgr;obtain ⟨w',v,r1,r2,β',r3,r4,r5,r6⟩:=hgr;simp only [C3] at r3 r5 r6;exact ⟨w',v,r1,⟨r2.os,r2.tape,r2.output,r2.size,λk hk _=>r2.block k hk⟩,λb hz=>EG r2<|hW.Bc b hz,β',r3,r4,r5,ME,AI,.inl A0⟩
        ·cases h
       ·cases h
      ·cases h
     ·cases h
   ·cases h
  ·cases h
 ·cases h
def aeD {t tx ty':aWu} {x y lv:LV} {vx vy:aWx} {H':aWi} (hW:RW G w0 Z0 Z β H w) (h:(Xi P H t tx x y).all λq=>q=(lv,H')) (hx:R β Z w x vx) (hy:R β Z w y vy):
  ∃w' v,(Builtin.copy_ #[t,tx] ty' #[vx,vy]).run P w=.ok v w'/\RW G w0 Z0 Z β H' w'/\R β Z w' lv v/\okV (M H') lv/\M H'=M H/\(∀b,Z b->w'.heap[b]? =w.heap[b]?)/\DX (DZ β H<|owns x) w w':=by
 unfold Xi at h;split at h
 ·rename_i e ty m FM e2 he hkx
  obtain ⟨hu,htn,i,hi,him,hib⟩:=oy he;subst htn;split at h
  ·rename_i k es n
   split at h
   ·rename_i c0 bt e' l hb
    split at h
    ·rename_i hee _
     have hee':=hee.symm
     subst hee';split at h
     ·rename_i hes
      subst hes;obtain ⟨q,hq,h⟩:=T.B8 h;obtain ⟨news,hs,nb⟩:=aEw hkx hW hq hy
      have hnl:=hs.newsLen
      simp only [T.all] at h;obtain ⟨⟨hn,hql⟩,h3⟩:=h;simp only [B0,Kl] at h3;obtain ⟨rfl,rfl⟩:=h3
      have hkl:k<M H:=(EE.1 hb).1
      obtain ⟨hblk,hbo⟩:=hW.blk k _ hb
      have hcells:=hs.cells
      have hlen:=hs.len
      have same:M q=0->H.set k ⟨c0,bt,.vec ty<|BI q l,X⟩=H:=λh0=>by
       have hq0:q=[]:=M8.1 h0
       subst hq0
       have e:H=H.set k ⟨c0,bt,.vec ty l,X⟩:=by
        apply List.ext_getElem? λj=>?_
        rw [IN];split
        ·rename_i hj;subst hj;exact hb
        ·rfl
       simp only [BI,EX,Bt,CT];exact e.symm
      have nothing:∀(a:Option Addr) (cc:aWe),vx=.slice a n cc->M q=0->∃w' v,(Builtin.copy_ #[t,tx] ty' #[vx,vy]).run P w=.ok v w'/\RW G w0 Z0 Z β (H.set k ⟨c0,bt,.vec ty<|BI q l,X⟩) w'/\R β Z w' (.v<|ag J (M q:Y)) v/\okV (M<|H.set k ⟨c0,bt,.vec ty<|BI q l,X⟩) (.v<|ag J (M q:Y))/\M (H.set k ⟨c0,bt,.vec ty<|BI q l,X⟩)=M H/\(∀b,Z b->w'.heap[b]? =w.heap[b]?)/\DX (DZ β H<|owns<|.os k ty.n 0 n) w w':=λa cc hv h0=>by
       have hnn:news=[]:=M8.1<|by rw [hnl,h0,mF]
       rw [same h0];subst hnn;rw [h0] at hcells hlen;refine ⟨w,ag J 0,?_,hW,by rw [h0];simp only [R];rfl,ak,rfl,λ_ _=>rfl,DX.refl _ _⟩
       rw [hv];cases a<;>simp [Builtin.copy_,CZ hu,hlen,sizeOf,typeInfo,hi,him,hcells,storeCells,goInt]
      simp only [R] at hx;split at hx
      ·rename_i hcap
       obtain ⟨hn0,_,hv⟩:=hx;exact nothing aj 0 (by rw [hv,hn0]) A0
      ·rename_i c hcap
       obtain ⟨hoc,ad,hvx,had⟩:=hx
       by_cases hq0:M q=0
       ·exact nothing _ _ hvx hq0
       ·have hlive:live β k ⟨c0,bt,.vec ty l,X⟩:=by unfold live;rw [hcap];simp
        simp only [BZ,hcap] at hblk;obtain ⟨cur,g1,g2,g3,g4⟩:=hblk
        have hm:=N6 ty.n (show M q<=c by omega)
        have hst:=xa P (β k).b (β k).o bt news 0 cur w g1 (by rw [hnl];omega) hs.one
        simp only [Zz] at hst;generalize hnew:(cur.toList.take (β k).o++news++cur.toList.drop ((β k).o+M news)).toArray=new at hst
        have hnget:∀p,new[p]? =if p<(β k).o then cur[p]? else if p<(β k).o+M news then news[p-(β k).o]? else cur[p]? :=λp=>by
         rw [<-hnew]
         have hsz':(β k).o<=cur.size:=A0
         by_cases q1:p<(β k).o
         ·exact aNu
         ·rw [AE q1]
          simp only [Zg]
          by_cases q2:p<(β k).o+M news
          ·exact aNp
          ·rw [AE q2,GY DD,FP]
           have:(β k).o+M news+(p-M (cur.toList.take (β k).o++news))=p:=by
            simp
            omega
           rw [this]
           simp
        have hnsz:new.size=cur.size:=by
         rw [<-hnew]
         simp
         omega
        have hne:∀q,q≠(β k).b->(w.setRow (β k).b new).heap[q]? =w.heap[q]? :=λq hq=>aDK w _ _ _ hq
        have hZw:∀b',Z b'->(w.setRow (β k).b new).heap[b']? =w.heap[b']? :=λb' hz=>hne b' λe=>hW.Cp k _ hb hlive rfl<|e▸hz
        have hb2:=setRow_heap w (β k).b cur new bt _ g1
        have had:=had A0
        rw [mF,Zz] at had;refine ⟨w.setRow (β k).b new,ag J (M q:Y),?_,?_,Ji,ak,AI,hZw,⟨rfl,rfl,rfl,Va,λq _ hq=>hne q λe=>hq<|e▸TJ hb hlive rfl⟩⟩
        ·rw [hvx,had]
         simp [Builtin.copy_,CZ hu,hlen,sizeOf,typeInfo,hi,him,Nat.min_eq_left hql,hcells,hst,goInt]
        ·refine hW.set hb hlive rfl rfl ⟨hbo.1,ak⟩ Va ⟨rfl,rfl,rfl⟩ hne ?_
         simp only [BZ,hcap];refine ⟨new,hb2,A0,by simp only [BI,BL,FO];omega,λi' d' hd'=>?_⟩
         unfold BI at hd'
         by_cases hii:i'<M q
         ·rw [Hj hii] at hd'
          refine nb Z (w.setRow (β k).b new) (β k).b (β k).o (λ_ h=>h) hZw (λp hp=>?_) i' d' hd'
          rw [cell_of_block hb2,hnget,AE A0,AD A0,xH]
         ·rw [GY A0,FP,Nat.add_sub_cancel' A0] at hd'
          refine RD.move (λ_ h=>h) hZw ty d' _ _ _ _ (λp hp=>?_)<|g4 i' d' hd'
          have:=N6 ty.n (show M q<=i' by omega)
          rw [cell_of_block hb2,cell_of_block g1,hnget,AE A0,AE A0]
     ·cases h
    ·cases h
   ·cases h
  ·cases h
 ·cases h
end Go.Sx
namespace Go.Sx
open Go.Proofs.YtoifmkifedcnnaaGreatDoor
open Go Go.RowKit
variable {P : Program} {G : B5} {Γ : Specs} {β : Nat -> Loc} {Z : Nat -> Prop} {Z0 : Gz} {w w0 : World} {F : List LV} {H : List AB} {a : Act}
def aDG {n m:aWe}{g:LV->LV}{l:aWf}(h:AT n l) (hg:∀x,okV n x->okV m (g x)):AT m (l.map g):=by
 refine AT.CU λi x hx=>?_
 cases hl:l[i]? with
 |none=>simp [hl] at hx
 |some q=>simp [hl] at hx;subst hx;exact hg q<|AT.get _ _ h hl
def aDo {k:aWe}{x:LV}:∀ {l:aWf}{i:aWe},l[i]? =ah x->k∈owns x->k∈ownsL l
 | [],i,h,_=>A8
 |y::ys,0,h,hk=>by simp at h;subst h;simp only [ownsL,BX];exact .inl hk
 |y::ys,i+1,h,hk=>by simp at h;simp only [ownsL,BX];exact .inr<|aDo (l:=ys) h hk
def TD {S:aWe->Prop}{Z':aWe->Prop}{g:LV->LV}{n:aWe}{l:aWf}{ys:aWv}(h:RL β Z w l ys) (hk:AT n l) (hS:∀k,k∈ownsL l->S k) (hg:∀x y,x∈l->(∀k,k∈owns x->S k)->okV n x->R β Z w x y->R β Z' w (g x) y):RL β Z' w (l.map g) ys:=by
 refine RL.CU (by simp [RL.length h]) λi x hx=>?_
 cases hl:l[i]? with
 |none=>simp [hl] at hx
 |some q=>
  simp [hl] at hx;subst hx
  obtain ⟨y,h1,h2⟩:=RL.get _ _ h hl;exact ⟨y,h1,hg q y (OP hl) (λk hkk=>hS k<|aDo hl hkk) (AT.get _ _ hk hl) h2⟩
def GX (H:aWi) (d:aWe) (x:LV):Prop:=(EZ H d x).all λ_=>True
def Og {α:Type}{g:α->T Unit}:∀ {l:List α},(GK g l).all (λ_=>True)->∀x,x∈l->(g x).all (λ_=>True)
 | [],_,x,hx=>QK
 | y::ys,h,x,hx=>by
  simp only [GK] at h;rw [T.all_bind] at h;rcases BA.1 hx with rfl|hx
  ·exact T.BY (λ_ _=>trivial) h
  ·obtain ⟨_,h1,_⟩:=T.pick h
   exact Og h1 x hx
def aqE (e:Ty) (d:e.D) (j:aWe):okV 0 ((Bq e d).getD j .junk):=fR (NV 0 e d) j
def QS (H:aWi) (hH:∀(k:aWe) (b:AB),H[k]? =ah b->okB (M H) b):∀(d:aWe) (x:LV),okV (M H) x->okV 0 (C1 H d x)
 |0,x,_=>by cases x<;>trivial
 | d+1,.own k off,_=>by
  simp only [C1];split
  ·rename_i b hb
   split
   ·simp only [okV]
    exact λj=>QS H hH d _<|fR (hH k b hb).1 _
   ·trivial
  ·trivial
 | d+1,.os k es off n,_=>by
  simp only [C1];split
  ·split
   ·trivial
   ·trivial
  ·trivial
 | d+1,.op k es i j,_=>by
  simp only [C1];split
  ·split
   ·simp only [okV];exact λq=>aqE _ _ _
   ·trivial
  ·trivial
 | d+1,.om k,_=>by
  simp only [C1];split
  ·rename_i hb
   exact aDG (hH k _ hb).2 λx hx=>QS H hH d x hx
  ·trivial
 |d+1,.v x,_=>trivial
 |d+1,.bl x,_=>trivial
 |d+1,.ki _ _,_=>trivial
 |d+1,.agg l,h=>aU
 |d+1,.AO l,h=>aU
 |d+1,.fn f l,h=>aU
 |d+1,.fb f l,h=>aU
 |d+1,.xq n f,h=>by simpa only [C1,okV] using h
 |d+1,.xl e l,h=>trivial
 |d+1,.mp kd ks vs,h=>aU
 |d+1,.oc ..,_=>trivial
 |d+1,.CO k,_=>trivial
 |d+1,.junk,_=>trivial
def ZP (Z:aWe->Prop) (β:aWe->aWU) (H:aWi) (S:aWe->Prop):aWe->Prop:=λb=>Z b\/∃k bk,S k/\H[k]? =ah bk/\live β k bk/\b=(β k).b
def ql (hW:RW G w0 Z0 Z β H w) {k:aWe}{b:AB}(hb:H[k]? =ah b) (hc:b.E4=U):live β k b/\(∃cs,w.heap[(β k).b]? =ah (.cells cs b.t (0,0))/\RL β Z w b.c cs.toList)/\AT (M H) b.c:=by
 obtain ⟨h1,h2⟩:=hW.blk k b hb;unfold BZ at h1;unfold AB.E4 at hc;split at hc
 ·rename_i hk'
  simp only [hk'] at h1;exact ⟨by unfold live;rw [hk'];trivial,h1,h2.1⟩
 ·cases hc
def MV {S:aWe->Prop}(hW:RW G w0 Z0 Z β H w) (clo:∀k b,S k->H[k]? =ah b->∀j,j∈b.owns->S j):∀(d:aWe) (x:LV) (y:aWx),GX H d x->(∀k,k∈owns x->S k)->okV (M H) x->R β Z w x y->R β (ZP Z β H S) w (C1 H d x) y
 |0,x,_,_,_,_,_=>by cases x<;>simp only [C1,R]
 | d+1,.own k off,y,hG,hS,hk,h=>by
  simp only [C1];split
  ·rename_i b hb
   split
   ·rename_i hcl
    obtain ⟨hl,⟨cs,hc,hrl⟩,hok⟩:=ql hW hb hcl
    have hSk:S k:=hS k Is
    simp only [R,okV] at*;refine ⟨(β k).b,off,h,.inr ⟨k,b,hSk,hb,hl,rfl⟩,λj hj=>?_⟩
    have hl':off+j<M b.c:=A0
    have hq:=getD_lt hl'
    obtain ⟨z,h1,h2⟩:=RL.get _ _ hrl hq;refine ⟨z,aOI,?_⟩
    have hG':(GK (EZ H d) b.c).all (λ_=>True):=aOt
    exact MV hW clo d _ z (Og hG' _<|OP hq) (λj hj=>clo k b hSk hb j (by unfold AB.owns;exact BX.2<|.inl<|aDo hq hj)) (fR hok _) h2
   ·exact Dw
  ·exact Dw
 | d +1,.os k es off n,y,hG,hS,hk,h=>by
  simp only [C1];split
  ·rename_i c0 bt e l pp hb
   split
   ·rename_i hes
    have hle:off+n<=M l:=by
     exact aNT
    have hSk:S k:=hS k Is
    have hlen:M ((l.drop off).take n)=n:=DD
    simp only [R] at h|-;rw [hlen];split at h
    ·obtain ⟨rfl,_,hy⟩:=h
     exact ⟨aj,0,hy,A0,λh=>absurd h A0⟩
    ·rename_i c hc
     obtain ⟨h1,a,h2,h3⟩:=h;refine ⟨ah a,c-off,h2,A0,λhn=>?_⟩
     have h4:=(hW.blk k _ hb).1
     simp only [BZ,hc] at h4;obtain ⟨cs,g1,g2,g3,g4⟩:=h4;refine ⟨_,_,by rw [h3 A0],.inr ⟨k,_,hSk,hb,by simp [live,hc],rfl⟩,λi d hd=>?_⟩
     rw [LD] at hd;split at hd
     ·rw [FP] at hd
      have:=g4 (off+i) d hd
      rw [<-hes];rw [GC,<-Hp] at this;exact RD.keep (λ_ h=> .inl h) (λ_ _=>rfl) e d _ _ rfl this
     ·cases hd
   ·exact Dw
  ·exact Dw
 | d +1,.op k es i j,y,hG,hS,hk,h=>by
  simp only [C1];split
  ·rename_i c0 bt e l pp hb
   split
   ·rename_i hes
    have hle:i<M l:=by
     exact aNT
    have hSk:S k:=hS k Is
    simp only [R] at h|-;obtain ⟨hcap,hy⟩:=h
    have h4:=(hW.blk k _ hb).1
    simp only [BZ] at h4;split at h4
    ·exact yB
    ·rename_i c hc
     obtain ⟨cs,g1,g2,g3,g4⟩:=h4;refine ⟨_,_,hy,.inr ⟨k,_,hSk,hb,by simp [live,hc],rfl⟩,λq hq=>?_⟩
     have hjq:j+q<M (Bq e<|l.getD i e.dflt):=yi
     have hrd:=RD.keep (Z':=ZP Z β H S) (λ_ h=> .inl h) (λ_ _=>rfl) e _ _ _ rfl<|g4 i _<|getD_at hle
     obtain ⟨z,z1,z2⟩:=X3 (β:=β) e _ _ _ hrd (j+q) _<|getD_lt hjq
     grind
   ·exact Dw
  ·exact Dw
 | d+1,.om k,y,hG,hS,hk,h=>by
  simp only [C1];split
  ·rename_i c0 bt kd ks vs pp hb
   have hSk:S k:=hS k Is
   obtain ⟨h4,h5⟩:=hW.blk k _ hb;simp only [BZ] at h4;obtain ⟨es,clock,g1,g2,g3⟩:=h4;simp only [R] at h|-;refine ⟨_,es,clock,h,.inr ⟨k,_,hSk,hb,ak,rfl⟩,g1,g2,?_⟩
   have hG':(GK (EZ H d) vs).all (λ_=>True):=aOt
   exact TD (S:=S) g3 h5.2 (λj hj=>clo k _ hSk hb j (by unfold AB.owns;exact BX.2<|.inr hj)) λx y hm hx hk' hr=>MV hW clo d x y (Og hG' _ hm) hx hk' hr
  ·exact Dw
 |d+1,.v x,_,_,_,_,h=>h
 |d+1,.bl x,_,_,_,_,h=>h
 |d+1,.ki _ _,_,_,_,_,h=>h
 |d+1,.agg l,y,hG,hS,hk,h=>by
  exact m8
 |d+1,.AO l,y,hG,hS,hk,h=>by
  exact m8
 |d+1,.fn f l,y,hG,hS,hk,h=>by
  exact m8
 |d+1,.fb f l,y,hG,hS,hk,h=>by
  exact m8
 |d+1,.mp kd ks vs,y,hG,hS,hk,h=>by
  have hG':(GK (EZ H d) vs).all (λ_=>True):=aOx
  clear hG
  simp only [C1,R,okV,owns] at*;obtain ⟨r,es,clock,h1,h2,h3,h4,h5⟩:=h;exact ⟨r,es,clock,h1,.inl h2,h3,h4,TD h5 hk hS λx y hm hx hk' hr=>MV hW clo d x y (Og hG' _ hm) hx hk' hr⟩
 |d+1,.xq n f,y,_,_,hk,h=>by
  exact aMx
 |d+1,.xl e l,y,_,_,hk,h=>by
  exact aMx
 |d+1,.oc ..,_,_,_,_,_=>yV
 |d+1,.CO k,_,_,_,_,_=>yV
 |d+1,.junk,_,_,_,_,_=>yV
def ck (ks:aWj):∀(H:aWi) (s k:aWe),(Ft ks s H)[k]? =(H[k]?).map λb=>if ks.contains (s+k) then ⟨b.c,b.t,b.k,U⟩ else b
 | [],_,_=>by simp [Ft]
 |b::bs,s,0=>by simp [Ft]
 |b::bs,s,k+1=>by
  simp only [Ft,lr];rw [ck ks bs (s+1) k,show s+1+k=s+(k+1) by omega]
def KK (ks:aWj):∀(H:aWi) (s:aWe),M (Ft ks s H)=M H
 | [],_=>rfl
 |b::bs,s=>by simp [Ft,KK ks bs]
def RW.pub (hW:RW G w0 Z0 Z β H w) (ks:aWj):RW G w0 Z0 (ZP Z β H λk=>k∈ks) β (Ft ks 0 H) w:=by
 have old:∀k b,(Ft ks 0 H)[k]? =ah b->∃b0,H[k]? =ah b0/\live β k b=live β k b0/\b.k=b0.k/\b.t=b0.t/\b.c=b0.c/\((k∈ks/\b.p=U)\/(k∉ks/\b.p=b0.p)):=λk b h=>by
  rw [ck] at h;cases hb:H[k]? with
  |none=>simp [hb] at h
  | some b0=>
   simp only [hb,Jh,Ai,Ek] at h;refine ⟨b0,rfl,?_⟩;split at h
   ·rename_i hc
    subst h;exact ⟨rfl,rfl,rfl,rfl,.inl ⟨A8,rfl⟩⟩
   ·rename_i hc
    subst h
    grind
 have hZ:∀b,Z b->ZP Z β H (λk=>k∈ks) b:=λ_ h=> .inl h
 refine ⟨hW.below,λb hz=>?_,λb hz=>?_,λk b hk hl hp hz=>?_,λk b hk hl hp=>?_,λk b hk hl=>?_,λi j bi bj hi hj li lj pi e=>?_,λk b hk=>?_,hW.Cb.mono hZ λ_ _=>rfl,λp hp=>⟨R.mono (n:=M H) (λ_ _=>rfl) hZ (λ_ _=>rfl) _ _ (hW.gh p hp).2 (hW.gh p hp).1,by rw [KK];exact (hW.gh p hp).2⟩,λD hD=>⟨.inl (hW.Cr D hD).1,(hW.Cr D hD).2⟩⟩
 ·exact aMj
 ·rcases hz with hz|⟨k,bk,_,h2,h3,rfl⟩
  ·exact hW.Et b hz
  ·exact .inr<|hW.low k bk h2 h3
 ·obtain ⟨b0,h1,h2,h3,h4,h5,h6⟩:=old k b hk
  rcases h6 with ⟨_,h6⟩ |⟨h6,h7⟩
  ·grind
  ·rcases hz with hz|⟨j,bj,g1,g2,g3,g4⟩
   ·exact hW.Cp k b0 h1 (h2▸hl) (h7▸hp) hz
   ·exact h6<|(hW.inj k j b0 bj h1 g2 (h2▸hl) g3 (h7▸hp) g4)▸g1
 ·obtain ⟨b0,h1,h2,h3,h4,h5,h6⟩:=old k b hk
  rcases h6 with ⟨h6,_⟩ |⟨h6,h7⟩
  ·exact .inr ⟨k,b0,h6,h1,h2▸hl,rfl⟩
  ·exact .inl<|hW.GL k b0 h1 (h2▸hl)<|h7▸hp
 ·obtain ⟨b0,h1,h2,_⟩:=old k b hk
  exact hW.low k b0 h1<|h2▸hl
 ·obtain ⟨b0,h1,h2,h3,h4,h5,h6⟩:=old i bi hi
  obtain ⟨c0,g1,g2,_⟩:=old j bj hj;rcases h6 with ⟨_,h6⟩ |⟨h6,h7⟩
  ·grind
  ·exact hW.inj i j b0 c0 h1 g1 (h2▸li) (g2▸lj) (h7▸pi) e
 ·obtain ⟨b0,h1,h2,h3,h4,h5,h6⟩:=old k b hk
  obtain ⟨q1,q2⟩:=hW.blk k b0 h1
  have q3:=q1.keep (β':=β) (Z':=ZP Z β H λk=>k∈ks) (w':=w) (n:=M H) (λ_ _=>rfl) hZ (λ_ _=>rfl) rfl (λ_=>rfl) q2
  rw [KK];refine ⟨?_,?_⟩
  ·unfold BZ at q3|-
   rwa [h3,h4,h5]
  ·unfold okB at q2|-
   rwa [h3,h5]
def Ss {ks:aWj}{l:aWf}(h:KT H ks l=U):(∀k,k∈ownsL l->k∈ks)/\(∀k b,k∈ks->H[k]? =ah b->∀j,j∈b.owns->j∈ks):=by
 unfold KT at h;refine ⟨λk hk=>A8,λk b hk hb j hj=>?_⟩
 grind
end Go.Sx
namespace Go.Sx
open Go.Proofs.YtoifmkifedcnnaaGreatDoor
open Go Go.RowKit
variable {P : Program} {G : B5} {Γ : Specs} {β : Nat -> Loc} {Z : Nat -> Prop} {Z0 : Gz} {w w0 : World} {F : List LV} {H : List AB} {a : Act}
def RO (β:aWe->aWU) (Z:aWe->Prop) (w:aWq):aXe->aWZ->Prop
 |none,aj=>True
 |some x,ah y=>R β Z w x y
 |_,_=>False
def aDg {lo hi:aWZ}{len cap i j:aWe}(hij:i<=j) (hlc:j<=cap) (hlo:match lo with|none=>i=0|some v=>∃k,v=ag k i) (hhi:match hi with|none=>j=len|some v=>∃k,v=ag k j) (w':aWq):
  (Instr.sliceBounds U len cap lo hi aj).run P w'=.ok (i,j,cap) w':=by
 have bd:∀(k:aWW) (x y:aWe) (c:BoundsCode),x<=y->(Instr.sliceBound (ag k x) y c).run P w'=.ok x w':=λk x y c hxy=>by
  exact aN1
 cases lo with
 |none=>
  subst hlo;cases hi with
  |none=>simp only at hhi;subst hhi;simp [Instr.sliceBounds]
  |some v=>simp only at hhi;obtain ⟨k,rfl⟩:=hhi;simp [Instr.sliceBounds,bd k j cap _ hlc]
 |some u=>
  obtain ⟨k',rfl⟩:=hlo;cases hi with
  |none=>simp only at hhi;subst hhi;simp [Instr.sliceBounds,bd k' i j _ hij]
  |some v=>simp only at hhi;obtain ⟨k,rfl⟩:=hhi;simp [Instr.sliceBounds,bd k j cap _ hlc,bd k' i j _ hij]
def adA {t:aWu} {x lv:LV} {y:aWx} {lo hi:aXe} {vlo vhi:aWZ} {N:aWe} (h:(tB P t x lo hi).all λz=>z=lv) (hr:R β Z w x y) (hlo:RO β Z w lo vlo) (hhi:RO β Z w hi vhi) (hk:okV N x):
  ∃v,(∀w',(Instr.sliceAt t y vlo vhi aj).run P w'=.ok v w')/\R β Z w lv v/\okV N lv:=by
 unfold tB at h;split at h
 ·rename_i e hu
  split at h
  ·rename_i m hsz
   have e2:=λw=>run_sizeOf hsz w
   have bnd:∀(o:aXe) (v:aWZ) (d n:Y),RO β Z w o v->(match o with|none=>ah d|some y=>match pl y with|some (.int _ n)=>ah n|_=>aj)=ah n->(match v with|none=>n=d|some v=>∃k,v=ag k n):=λo v d n ho hn=>by
    cases o with
    |none=>
     cases v with
     |none=>simp only at hn|-;exact (EF hn).symm
     |some v=>cases ho
    | some x=>
     cases v with
     |none=>cases ho
     | some v=>
      simp only [RO] at ho;simp only at hn|-;split at hn
      ·rename_i k n' hp
       simp only [Ai] at hn;subst hn;exact ⟨k,Ck hp ho⟩
      ·cases hn
   have nn:∀(v:aWZ) (d n:Y),0<=n->0<=d->(match v with|none=>n=d|some v=>∃k,v=ag k n)->(match v with|none=>n.toNat=d.toNat|some v=>∃k,v=ag k (n.toNat:Y)):=λv d n hn hd hv=>by
    cases v with
    |none=>simp only at hv|-;rw [hv]
    |some v=>simp only at hv|-;rw [CP hn];exact hv
   simp only at h;split at h
   ·rename_i ty l
    split at h
    ·rename_i i j hi1 hi2
     split at h
     ·rename_i htn
      simp only [T.all] at h;obtain ⟨⟨h0,h1,h2⟩,h3⟩:=h;subst h3;simp only [R] at hr;obtain ⟨ad,cap,g1,g2,g3⟩:=hr
      have b1:=nn vlo 0 i h0 A0<|bnd lo vlo 0 i hlo hi1
      have b2:=nn vhi _ j A0 A0<|bnd hi vhi _ j hhi hi2
      simp only [By,Int.toNat_zero] at b1 b2;refine ⟨_,λw'=>by simp [Instr.sliceAt,Instr.slice,CZ hu,g1,aDg (P:=P) (len:=M l) (cap:=cap) (i:=i.toNat) (j:=j.toNat) A0 A0 b1 b2 w',e2];rfl,?_,ak⟩
      have hlen:M ((l.drop i.toNat).take<|j.toNat-i.toNat)=j.toNat-i.toNat:=DD
      simp only [R];rw [hlen];refine ⟨_,_,rfl,A0,λhn=>?_⟩
      obtain ⟨b,off,g4,g5,g6⟩:=g3 A0;rw [AE A0,g4];simp only [Jh,addr_add];refine ⟨b,_,rfl,g5,λp d hd=>?_⟩
      rw [LD] at hd;split at hd
      ·rw [FP] at hd
       have:=g6 (i.toNat+p) d hd
       rw [GC,<-Hp,htn] at this;rw [htn];exact this
      ·cases hd
     ·cases h
    ·cases h
   ·rename_i k es off n
    split at h
    ·rename_i i j hi1 hi2
     split at h
     ·rename_i hes
      simp only [T.all] at h;obtain ⟨⟨h0,h1,h2⟩,h3⟩:=h;subst h3
      have b1:=nn vlo 0 i h0 A0<|bnd lo vlo 0 i hlo hi1
      have b2:=nn vhi _ j A0 A0<|bnd hi vhi _ j hhi hi2
      simp only [R] at hr;split at hr
      ·rename_i hcap
       obtain ⟨rfl,rfl,rfl⟩:=hr
       have hi0:i.toNat=0:=A0
       have hj0:j.toNat=0:=A0
       refine ⟨.slice aj 0 0,λw'=>by simp [Instr.sliceAt,Instr.slice,CZ hu,aDg (P:=P) (len:=0) (cap:=0) (i:=i.toNat) (j:=j.toNat) A0 A0 b1 b2 w',e2,hi0,hj0],by simp [R,hcap,hi0,hj0],hk⟩
      ·rename_i c hcap
       obtain ⟨g1,ad,g2,g3⟩:=hr;subst g2;refine ⟨_,λw'=>by simp [Instr.sliceAt,Instr.slice,CZ hu,aDg (P:=P) (len:=n) (cap:=c-off) (i:=i.toNat) (j:=j.toNat) A0 A0 b1 b2 w',e2];rfl,?_,hk⟩
       simp only [R,hcap];refine ⟨A0,if c-off=i.toNat then ad else ad.add (i.toNat*(m+1)),?_,λhn=>?_⟩
       ·rw [show c-(off+i.toNat)=c-off-i.toNat by omega]
        split<;>rfl
       ·rw [AE A0,g3 A0,addr_add,hes,GC,Hp]
     ·cases h
    ·cases h
   ·cases h
  ·cases h
 ·cases h
def aeG {lo:aWZ}{kh km:aWW}{len cap i j:aWe}(hij:i<=j) (hlc:j<=cap) (hlo:match lo with|none=>i=0|some v=>∃k,v=ag k i) (w':aWq):
  (Instr.sliceBounds U len cap lo (ah<|ag kh j)<|ah<|ag km j).run P w'=.ok (i,j,j) w':=by
 have bd:∀(k:aWW) (x y:aWe) (c:BoundsCode),x<=y->(Instr.sliceBound (ag k x) y c).run P w'=.ok x w':=λk x y c hxy=>by
  exact aN1
 cases lo with
 |none=>simp only at hlo;subst hlo;simp [Instr.sliceBounds,bd km j cap _ hlc,bd kh j j _<|At j]
 |some u=>
  obtain ⟨k',rfl⟩:=hlo
  simp [Instr.sliceBounds,bd km j cap _ hlc,bd kh j j _<|At j,bd k' i j _ hij]
def ad3 {t:aWu} {x lv hi mx:LV} {y vhi vmx:aWx} {lo:aXe} {vlo:aWZ} {N:aWe} (h:(rR P t x lo hi mx).all λz=>z=lv) (hr:R β Z w x y) (hlo:RO β Z w lo vlo) (hhi:R β Z w hi vhi) (hmx:R β Z w mx vmx):
  ∃v,(∀w',(Instr.sliceAt t y vlo (ah vhi)<|ah vmx).run P w'=.ok v w')/\R β Z w lv v/\okV N lv:=by
 unfold rR at h;split at h
 ·rename_i e hu
  split at h
  ·rename_i m hsz
   have e2:=λw=>run_sizeOf hsz w
   split at h
   ·rename_i ty l
    split at h
    ·rename_i i kj j kq q hi1 hi2 hi3
     have v2:=Ck hi2 hhi
     have v3:=Ck hi3 hmx
     subst v2;subst v3;split at h
     ·rename_i htn
      obtain ⟨⟨h0,h1,h2,rfl⟩,h3⟩:=h;subst h3;obtain ⟨ad,cap,g1,g2,g3⟩:=hr
      have b1:(match (generalizing:=false) vlo with|none=>i.toNat=0|some v=>∃k,v=ag k (i.toNat:Y)):=by
       cases lo with
       |none=>
        cases vlo with
        |none=>simp only [Ai] at hi1;subst hi1;rfl
        |some v=>cases hlo
       | some u=>
        cases vlo with
        |none=>cases hlo
        | some v=>
         simp only at hi1|-;split at hi1
         ·rename_i k n' hp
          simp only [Ai] at hi1;subst hi1;exact ⟨k,by rw [CP h0];exact Ck hp hlo⟩
         ·cases hi1
      have hj:q=((q.toNat:aWe):Y):=(CP A0).symm
      have hb:=λw'=>aeG (P:=P) (lo:=vlo) (kh:=kj) (km:=kq) (len:=M l) (cap:=cap) (i:=i.toNat) (j:=q.toNat) A0 A0 b1 w'
      rw [<-hj] at hb;refine ⟨_,λw'=>by simp [Instr.sliceAt,Instr.slice,CZ hu,g1,hb w',e2];rfl,?_,ak⟩
      have hlen:M ((l.drop i.toNat).take<|q.toNat-i.toNat)=q.toNat-i.toNat:=DD
      simp only [R];rw [hlen];refine ⟨_,_,rfl,A0,λhn=>?_⟩
      obtain ⟨b,off,g4,g5,g6⟩:=g3 A0;rw [AE A0,g4];simp only [Jh,addr_add];refine ⟨b,_,rfl,g5,λp d hd=>?_⟩
      rw [LD] at hd;split at hd
      ·rw [FP] at hd
       have:=g6 (i.toNat+p) d hd
       grind
      ·cases hd
     ·cases h
    ·cases h
   ·cases h
  ·cases h
 ·cases h
def aEn {kd:aWW}{n:Y}{z:aWx}{lv:LV}:∀(ks:aWd) (vs:aWf) (es:aXa) (s:aWe),(ct kd n z ks vs).all (λr=>r=lv)->M ks=M vs->es.map (·.key)=ks.map (.int kd)->RL β Z w vs (es.map (·.val))->
  (∃s' v,aA (.int kd) (ag kd n) es s=ah (ah (s',v))/\R β Z w lv v/\∃i:aWe,vs[i]? =ah lv)\/(aA (.int kd) (ag kd n) es s=ah aj/\lv=.v z)
 | [],[],es,s,h,_,hk,hr=>by
  exact aO1
 | [],_::_,_,_,_,hl,_,_=>A8
 |_::_,[],_,_,_,hl,_,_=>A8
 | k::ks,v::vs,es,s,h,hl,hk,hr=>by
  cases es with
  |nil=>simp at hk
  | cons e es=>
   simp only [ET,Ho] at hk;obtain ⟨y,zs,h1,h2,h3⟩:=hr;obtain ⟨rfl,rfl⟩:=h1;cases hb:(n==k) with
   |true=>
    have:=h.1 hb
    subst this;exact .inl ⟨s,e.val,VU,h2,0,rfl⟩
   |false=>
    have hf:aA (.int kd) (ag kd n) (e::es) s=aA (.int kd) (ag kd n) es (s+1):=VU
    rw [hf];rcases aEn ks vs es (s+1) (h.2 hb) A8 hk.2 h3 with ⟨s',v',q1,q2,i,q3⟩ |q
    ·exact .inl ⟨s',v',q1,q2,i+1,A8⟩
    ·exact .inr q
def oL {kt:aWu}{kd:aWW}(hu:P.underlying kt=ah (.int kd)) (e:aWo) (v:aWx) (w':aWq):(Instr.checkKey e 10000 kt v).run P w'=.ok () w':=by
 unfold Instr.checkKey
 simp [CZ hu]
def adT {t:aWu}{x q lv:LV}{y z:aWx}(hW:RW G w0 Z0 Z β H w) (h:(UD P H t x q).all λr=>r=lv) (hr:R β Z w x y) (hq:R β Z w q z) (hk:okV (M H) x):
  ∃v,(∀w',(∀b,(Z b\/∃k,x=.om k/\b=(β k).b)->w'.heap[b]? =w.heap[b]?)->(Instr.lookup t y z X).run P w'=.ok v w')/\R β Z w lv v/\okV (M H) lv:=by
 unfold UD at h;split at h
 ·rename_i kt et hu
  split at h
  ·rename_i kd z0 kd' n hku hz hp
   split at h
   ·rename_i hkd
    obtain ⟨rfl,hz1⟩:=hkd
    have hzq:=Ck hp hq
    have main:∀(r:aWe) (es:Array MapEntry) (clock:aWe) (ks:aWd) (vs:aWf),y=.map (ah r)->w.heap[r]? =ah (.map es clock)->es.toList.map (·.key)=ks.map (.int kd')->RL β Z w vs (es.toList.map (·.val))->M ks=M vs->AT (M H) vs->(ct kd' n z0 ks vs).all (λr=>r=lv)->(Z r\/∃k,x=.om k/\r=(β k).b)->
      ∃v,(∀w',(∀b,(Z b\/∃k,x=.om k/\b=(β k).b)->w'.heap[b]? =w.heap[b]?)->(Instr.lookup t y z X).run P w'=.ok v w')/\R β Z w lv v/\okV (M H) lv:=λr es clock ks vs hy hh hkk hvv hl hok hch hzr=>by
     rcases aEn ks vs es.toList 0 hch hl hkk hvv with ⟨s',v',q1,q2,i,q3⟩ |⟨q1,q2⟩
     ·refine ⟨v',λw' hw'=>?_,q2,AT.get i _ hok q3⟩
      exact aMe
     ·refine ⟨z0,λw' hw'=>?_,by rw [q2];simp [R],by rw [q2];trivial⟩
      exact aMY
    split at h
    ·exact aNs
    ·rename_i k
     split at h
     ·rename_i hb
      split at h
      ·rename_i hkk
       obtain ⟨rfl,hl⟩:=hkk;obtain ⟨b1,b2⟩:=hW.blk k _ hb;obtain ⟨es,clock,g1,g2,g3⟩:=b1;exact aMn
      ·cases h
     ·cases h
    ·cases h
   ·cases h
  ·cases h
 ·cases h
def adM {kd:aWW}{n:Y}{z:aWx}{lv:LV}:∀(ks:aWd) (vs:aWf) (es:aXa) (s:aWe),(cW kd n z ks vs).all (λr=>r=lv)->M ks=M vs->es.map (·.key)=ks.map (.int kd)->RL β Z w vs (es.map (·.val))->
  (∃s' v u,aA (.int kd) (ag kd n) es s=ah (ah (s',v))/\R β Z w u v/\lv=.AO [norm u,.bl U]/\∃i:aWe,vs[i]? =ah u)\/(aA (.int kd) (ag kd n) es s=ah aj/\lv=.AO [.v z,.bl X])
 | [],[],es,s,h,_,hk,hr=>by
  exact aO1
 | [],_::_,_,_,_,hl,_,_=>A8
 |_::_,[],_,_,_,hl,_,_=>A8
 | k::ks,v::vs,es,s,h,hl,hk,hr=>by
  cases es with
  |nil=>simp at hk
  | cons e es=>
   simp only [ET,Ho] at hk;obtain ⟨y,zs,h1,h2,h3⟩:=hr;obtain ⟨rfl,rfl⟩:=h1;cases hb:(n==k) with
   |true=>
    have:=h.1 hb
    subst this;exact .inl ⟨s,e.val,v,VU,h2,rfl,0,rfl⟩
   |false=>
    have hf:aA (.int kd) (ag kd n) (e::es) s=aA (.int kd) (ag kd n) es (s+1):=VU
    rw [hf];rcases adM ks vs es (s+1) (h.2 hb) A8 hk.2 h3 with ⟨s',v',u',q1,q2,q4,i,q3⟩ |q
    ·exact .inl ⟨s',v',u',q1,q2,q4,i+1,A8⟩
    ·exact .inr q
def adL {t:aWu}{x q lv:LV}{y z:aWx}(hW:RW G w0 Z0 Z β H w) (h:(XG P H t x q).all λr=>r=lv) (hr:R β Z w x y) (hq:R β Z w q z) (hk:okV (M H) x):
  ∃v,(∀w',(∀b,(Z b\/∃k,x=.om k/\b=(β k).b)->w'.heap[b]? =w.heap[b]?)->(Instr.lookup t y z U).run P w'=.ok v w')/\R β Z w lv v/\okV (M H) lv:=by
 unfold XG at h;split at h
 ·rename_i kt et hu
  split at h
  ·rename_i kd z0 kd' n hku hz hp
   split at h
   ·rename_i hkd
    obtain ⟨rfl,hz1⟩:=hkd
    have hzq:=Ck hp hq
    have main:∀(r:aWe) (es:Array MapEntry) (clock:aWe) (ks:aWd) (vs:aWf),y=.map (ah r)->w.heap[r]? =ah (.map es clock)->es.toList.map (·.key)=ks.map (.int kd')->RL β Z w vs (es.toList.map (·.val))->M ks=M vs->AT (M H) vs->(cW kd' n z0 ks vs).all (λr=>r=lv)->(Z r\/∃k,x=.om k/\r=(β k).b)->
      ∃v,(∀w',(∀b,(Z b\/∃k,x=.om k/\b=(β k).b)->w'.heap[b]? =w.heap[b]?)->(Instr.lookup t y z U).run P w'=.ok v w')/\R β Z w lv v/\okV (M H) lv:=λr es clock ks vs hy hh hkk hvv hl hok hch hzr=>by
     rcases adM ks vs es.toList 0 hch hl hkk hvv with ⟨s',v',u,q1,q2,q4,i,q3⟩ |⟨q1,q2⟩
     ·refine ⟨.tuple #[v',.bool U],λw' hw'=>?_,by rw [q4];exact ⟨_,rfl,v',[.bool U],rfl,Ow q2,_,[],rfl,rfl,rfl⟩,by rw [q4];exact ⟨TE<|AT.get i _ hok q3,ak,ak⟩⟩
      exact aMe
     ·refine ⟨.tuple #[z0,.bool X],λw' hw'=>?_,by rw [q2];exact ⟨_,rfl,z0,[.bool X],rfl,rfl,_,[],rfl,rfl,rfl⟩,by rw [q2];exact ⟨ak,ak,ak⟩⟩
      exact aMY
    split at h
    ·exact aNs
    ·rename_i k
     split at h
     ·rename_i hb
      split at h
      ·rename_i hkk
       obtain ⟨rfl,hl⟩:=hkk;obtain ⟨b1,b2⟩:=hW.blk k _ hb;simp only [BZ] at b1;obtain ⟨es,clock,g1,g2,g3⟩:=b1;simp only [R] at hr;exact aMn
      ·cases h
     ·cases h
    ·cases h
   ·cases h
  ·cases h
 ·cases h
def aF8 {kd:aWW}{n:Y}:∀(ks:aWd) (es:aXa) (s:aWe),ks.contains n=X->es.map (·.key)=ks.map (.int kd)->aA (.int kd) (ag kd n) es s=ah aj
 | [],es,s,_,hk=>by
  have:es=[]:=GD
  subst this;rfl
 | k::ks,es,s,hc,hk=>by
  cases es with
  |nil=>simp at hk
  |cons e es=>
   simp only [ET,Ho] at hk;simp only [List.contains_cons,Ga] at hc
   have hf:aA (.int kd) (ag kd n) (e::es) s=aA (.int kd) (ag kd n) es (s+1):=by simp [aA,Instr.sameNow,hk.1,hc.1]
   rw [hf];exact aF8 ks es (s+1) hc.2 hk.2
def aER {t:aWu}{x q r:LV}{y z u:aWx}{H':aWi}(hW:RW G w0 Z0 Z β H w) (h:(Ux P H t x q r).all λr=>r=H') (hr:R β Z w x y) (hq:R β Z w q z) (hu:R β Z w r u) (hrk:okV (M H) r):
  ∃w',(Instr.mapUpdate t y z u).run P w=.ok () w'/\RW G w0 Z0 Z β H' w'/\M H'=M H/\(∀b,Z b->w'.heap[b]? =w.heap[b]?)/\DX (DZ β H<|owns x) w w':=by
 unfold Ux at h;split at h
 ·rename_i kt et hut
  split at h
  ·rename_i kd kd' n k hku hp
   split at h
   ·rename_i c0 bt kd2 ks vs hb
    split at h
    ·rename_i hle
     obtain ⟨rfl,rfl,hl,hnc⟩:=hle;subst h;obtain ⟨b1,b2⟩:=hW.blk k _ hb;obtain ⟨es,clock,g1,g2,g3⟩:=b1;simp only [R] at hr
     have hzq:=Ck hp hq
     have hlt:=(Hk.1 g1).1
     have hget:(getObj (β k).b).run P w=.ok (.map es clock) w:=aPY
     let w':aWq:={w with heap:=w.heap.setIfInBounds (β k).b<|.map (es.push {key:=z,val:=u,born:=clock})<|clock+1}
     have hset:(setObj (β k).b<|.map (es.push {key:=z,val:=u,born:=clock})<|clock+1).run P w=.ok () w':=aOy
     have hfn:=aF8 ks es.toList 0 hnc g2
     have hlive:=trivial
     have hne:∀j,j≠(β k).b->w'.heap[j]? =w.heap[j]? :=λj hj=>A8
     have hZw:∀b',Z b'->w'.heap[b']? =w.heap[b']? :=λb' hz=>hne b' λe=>hW.Cp k _ hb hlive rfl<|e▸hz
     refine ⟨w',?_,?_,AI,hZw,⟨rfl,rfl,rfl,nC,λj _ hj=>hne j λe=>hj<|e▸TJ hb hlive rfl⟩⟩
     ·rw [hzq] at hset
      simp [Instr.mapUpdate,CZ hut,hr,hget,oL hku,Instr.findKey,CZ hku,hzq,hfn,hset]
     ·refine hW.set hb hlive rfl rfl ⟨ak,AT.append b2.2 ⟨hrk,ak⟩⟩ nC ⟨rfl,rfl,rfl⟩ hne ?_
      refine ⟨es.push {key:=z,val:=u,born:=clock},clock+1,by simp [w',hlt],by simp [g2,hzq],?_⟩
      have h1:RL β Z w (vs++[r]) (es.toList.map (·.val)++[u]):=g3.app (by simp only [RL];exact ⟨u,[],rfl,hu,rfl⟩)
      have hok1:AT (M H) [r]:=⟨hrk,ak⟩
      have h2:=RL.mono (n:=M H) (β':=β) (Z':=Z) (λ_ _=>rfl) (λ_ h=>h) hZw _ _ (AT.append b2.2 hok1) h1
      grind
    ·cases h
   ·cases h
  ·cases h
 ·cases h
def aSj:∀ {e:Ty}{v:aWx}{d:e.D},Mx e v=ah d->v=wH e d
 | .int k,v,d,h=>by
  simp only [Mx] at h;split at h
  ·split at h
   ·rename_i hk;simp only [Ai] at h;subst h hk;rfl
   ·cases h
  ·cases h
 | .str,v,d,h=>by
  simp only [Mx] at h;split at h
  ·simp only [Ai] at h;subst h;rfl
  ·cases h
 | .bool,_,_,h=>yn
 | .sl _,_,_,h=>yn
 | .pair _ _,_,_,h=>yn
def nZ:Ty->TypeDesc
 | .int k=> .int k
 |_=> .string
def aGZ {k:aWW}{d:Y}:∀(l:aWd) (es:aXa) (s:aWe),es.map (·.key)=l.map (.int k)->(∀x,x∈es->x.val=.bool U)->
  (l.contains d=U/\∃s',aA (.int k) (ag k d) es s=ah (ah (s',.bool U)))\/(l.contains d=X/\aA (.int k) (ag k d) es s=ah aj)
 | [],es,s,hk,_=>by
  exact aNS
 | x::l,es,s,hk,hv=>by
  cases es with
  |nil=>simp at hk
  | cons e es=>
   simp only [ET,Ho] at hk;cases hb:(d==x) with
   |true=>
    refine .inl ⟨A8,s,?_⟩
    have hv1:=hv e AI
    simp [aA,Instr.sameNow,hk.1,hb,hv1]
   |false=>
    have hf:aA (.int k) (ag k d) (e::es) s=aA (.int k) (ag k d) es (s+1):=VU
    rw [hf]
    have hc:(x::l).contains d=l.contains d:=A8
    rw [hc];exact aGZ l es (s+1) hk.2 λy hy=>hv y A8
def aGY {d:aWM}:∀(l:aWg) (es:aXa) (s:aWe),es.map (·.key)=l.map .string->(∀x,x∈es->x.val=.bool U)->
  (l.contains d=U/\∃s',aA .string (.string d) es s=ah (ah (s',.bool U)))\/(l.contains d=X/\aA .string (.string d) es s=ah aj)
 | [],es,s,hk,_=>by
  exact aNS
 | x::l,es,s,hk,hv=>by
  cases es with
  |nil=>simp at hk
  | cons e es=>
   simp only [ET,Ho] at hk;cases hb:(d==x) with
   |true=>
    refine .inl ⟨A8,s,?_⟩
    have hv1:=hv e AI
    simp [aA,Instr.sameNow,hk.1,hb,hv1]
   |false=>
    have hf:aA .string (.string d) (e::es) s=aA .string (.string d) es (s+1):=VU
    rw [hf]
    have hc:(x::l).contains d=l.contains d:=A8
    rw [hc];exact aGY l es (s+1) hk.2 λy hy=>hv y A8
def aIN {e:Ty}{v:aWx}{d:e.D}(hd:Mx e v=ah d) (l:List e.D) (es:aXa) (s:aWe) (hk:es.map (·.key)=List.map (wH e) l) (hv:∀x,x∈es->x.val=.bool U):
  (na e d l=U/\∃s',aA (nZ e) v es s=ah (ah (s',.bool U)))\/(na e d l=X/\aA (nZ e) v es s=ah aj):=by
 have hvv:=aSj hd
 subst hvv;cases e with
 |int k=>exact aGZ l es s hk hv
 |str=>exact aGY l es s hk hv
 |bool=>simp [Mx] at hd
 |sl _=>simp [Mx] at hd
 |pair _ _=>simp [Mx] at hd
def aEz {t:aWu}{e:Ty}(h:bT P t=ah e):∃kt et,P.underlying t=ah (.map kt et)/\P.underlying et=ah .bool/\P.underlying kt=ah (nZ e)/\(∀(b:aWo) (v:aWx) (w':aWq),(Instr.checkKey b 10000 kt v).run P w'=.ok () w')/\IV P et=ah (.bool X):=by
 unfold bT at h;split at h
 ·rename_i kt et hu
  split at h
  ·rename_i k h1 h2 h3
   simp only [Ai] at h;subst h;exact ⟨kt,et,hu,h1,h2,λb v w'=>oL h2 b v w',h3⟩
  ·rename_i h1 h2 h3
   simp only [Ai] at h;subst h;exact ⟨kt,et,hu,h1,h2,λb v w'=>by unfold Instr.checkKey;simp [CZ h2],h3⟩
  ·cases h
 ·cases h
def adU {t:aWu}{x q lv:LV}{y z:aWx}(hW:RW G w0 Z0 Z β H w) (h:(XW P H t x q).all λr=>r=lv) (hr:R β Z w x y) (hq:R β Z w q z) (hk:okV (M H) x):
  ∃v,(∀w',(∀b,(Z b\/∃k,x=.om k/\b=(β k).b)->w'.heap[b]? =w.heap[b]?)->(Instr.lookup t y z X).run P w'=.ok v w')/\R β Z w lv v/\okV (M H) lv:=by
 unfold XW at h;split at h
 ·rename_i k
  split at h
  ·rename_i c0 bt e l pp hb
   unfold abN at h;split at h
   ·rename_i e' v hs hp
    split at h
    ·rename_i he d _ hd
     obtain ⟨he⟩:=he;subst he;subst h;obtain ⟨kt,et,u1,u2,u3,u4,u5⟩:=aEz hs;obtain ⟨b1,b2⟩:=hW.blk k _ hb;obtain ⟨es,clock,g1,g2,g3⟩:=b1;simp only [R] at hr
     have hzq:=Ck hp hq
     rcases aIN hd l es.toList 0 g2 g3 with ⟨m1,s',m2⟩ |⟨m1,m2⟩
     ·refine ⟨.bool U,λw' hw'=>?_,by simp only [R,m1],ak⟩
      have hh':w'.heap[(β k).b]? =ah (.map es clock):=A8
      have hget:(getObj (β k).b).run P w'=.ok (.map es clock) w':=mq
      simp [Instr.lookup,CZ u1,hr,hget,u4,Instr.findKey,CZ u3,hzq,m2]
     ·refine ⟨.bool X,λw' hw'=>?_,by simp only [R,m1],ak⟩
      have hh':w'.heap[(β k).b]? =ah (.map es clock):=A8
      have hget:(getObj (β k).b).run P w'=.ok (.map es clock) w':=mq
      have hz0:=λw=>oS u5 w
      simp [Instr.lookup,CZ u1,hr,hget,u4,Instr.findKey,CZ u3,hzq,m2,hz0]
    ·cases h
   ·cases h
  ·exact adT hW h hr hq hk
 ·exact adT hW h hr hq hk
def adZ {t:aWu}{x q r:LV}{y z u:aWx}{H':aWi}(hW:RW G w0 Z0 Z β H w) (h:(insL P H t x q r).all λr=>r=H') (hr:R β Z w x y) (hq:R β Z w q z) (hu:R β Z w r u) (hrk:okV (M H) r):
  ∃w',(Instr.mapUpdate t y z u).run P w=.ok () w'/\RW G w0 Z0 Z β H' w'/\M H'=M H/\(∀b,Z b->w'.heap[b]? =w.heap[b]?)/\DX (DZ β H<|owns x) w w':=by
 unfold insL at h;split at h
 ·rename_i k
  split at h
  ·rename_i c0 bt e l hb
   split at h
   ·rename_i e' v hs hp
    split at h
    ·rename_i he d _ hd
     obtain ⟨he⟩:=he;subst he;obtain ⟨hnm,h⟩:=h;subst h;obtain ⟨kt,et,u1,u2,u3,u4,u5⟩:=aEz hs;obtain ⟨b1,b2⟩:=hW.blk k _ hb;obtain ⟨es,clock,g1,g2,g3⟩:=b1;simp only [R] at hr hu
     have hzq:=Ck hp hq
     have hlt:=(Hk.1 g1).1
     have hget:(getObj (β k).b).run P w=.ok (.map es clock) w:=aPY
     let w':aWq:={w with heap:=w.heap.setIfInBounds (β k).b<|.map (es.push {key:=z,val:=u,born:=clock})<|clock+1}
     have hset:(setObj (β k).b<|.map (es.push {key:=z,val:=u,born:=clock})<|clock+1).run P w=.ok () w':=aOy
     have hfn:aA (nZ e') v es.toList 0=ah none:=by
      rcases aIN hd l es.toList 0 g2 g3 with ⟨m1,_⟩ |⟨_,m2⟩
      ·grind
      ·exact m2
     have hlive:=trivial
     have hne:∀j,j≠(β k).b->w'.heap[j]? =w.heap[j]? :=λj hj=>A8
     have hZw:∀b',Z b'->w'.heap[b']? =w.heap[b']? :=λb' hz=>hne b' λe=>hW.Cp k _ hb hlive rfl<|e▸hz
     refine ⟨w',?_,?_,AI,hZw,⟨rfl,rfl,rfl,nC,λj _ hj=>hne j λe=>hj<|e▸TJ hb hlive rfl⟩⟩
     ·rw [hzq] at hset
      simp [Instr.mapUpdate,CZ u1,hr,hget,u4,Instr.findKey,CZ u3,hzq,hfn,hset]
     ·refine hW.set hb hlive rfl rfl ⟨ak,ak⟩ nC ⟨rfl,rfl,rfl⟩ hne ?_
      refine ⟨es.push {key:=z,val:=u,born:=clock},clock+1,by simp [w',hlt],?_,λx hx=>?_⟩
      ·rw [Array.toList_push,KD,KD,g2]
       simp [hzq,aSj hd]
      ·rw [Array.toList_push,BX] at hx
       rcases hx with hx|hx
       ·exact g3 x hx
       ·grind
    ·cases h
   ·cases h
  ·exact aER hW h hr hq hu hrk
 ·exact aER hW h hr hq hu hrk
def RW.afp {kd:aWW}{t:aWu}(hW:RW G w0 Z0 Z β H w):
  ∃β',(∀k,k<M H->β' k=β k)/\(β'<|M H).b=w.heap.size/\RW G w0 Z0 Z β' (H++[⟨[],t,.mp kd [] [],X⟩]) (w.alloc<|.map #[] 0)/\Below w.heap.size w (w.alloc<|.map #[] 0):=by
 have hbw:Below w.heap.size w (w.alloc<|.map #[] 0):=(Below.refl _ _).alloc (At _) _
 obtain ⟨β',h1,h2,h3⟩:=(hW.same hbw).Km (ℓ:=⟨w.heap.size,0,aj⟩) (nb:=⟨[],t,.mp kd [] [],X⟩) rfl ⟨ak,ak⟩ (λ_=>⟨λhz=>aR,hW.below.size,λj bj hj lj e=>Sq⟩) (λβ' h1 h2=>by
  simp only [BZ,h2];refine ⟨#[],0,?_,AI,bM⟩
  show (w.heap.push _)[w.heap.size]? =_
  simp)
 grind
def RW.agO {e:Ty}{t:aWu}(hW:RW G w0 Z0 Z β H w):
  ∃β',(∀k,k<M H->β' k=β k)/\(β'<|M H).b=w.heap.size/\RW G w0 Z0 Z β' (H++[⟨[],t,.st e [],X⟩]) (w.alloc<|.map #[] 0)/\Below w.heap.size w (w.alloc<|.map #[] 0):=by
 have hbw:Below w.heap.size w (w.alloc<|.map #[] 0):=(Below.refl _ _).alloc (At _) _
 obtain ⟨β',h1,h2,h3⟩:=(hW.same hbw).Km (ℓ:=⟨w.heap.size,0,aj⟩) (nb:=⟨[],t,.st e [],X⟩) rfl ⟨ak,ak⟩ (λ_=>⟨λhz=>aR,hW.below.size,λj bj hj lj e=>Sq⟩) (λβ' h1 h2=>by
  simp only [BZ,h2];refine ⟨#[],0,?_,AI,AI⟩
  show (w.heap.push _)[w.heap.size]? =_
  simp)
 grind
end Go.Sx
namespace Go.Sx
open Go Go.RowKit Go.Proofs.YtoifmkifedcnnaaGreatDoor
variable {P : Program} {G : B5} {Γ : Specs} {β : Nat -> Loc} {Z : Nat -> Prop} {Z0 : Gz} {w w0 : World} {F : List LV} {H : List AB} {a : Act} {ds : List Deferred}
abbrev β0:aWe->aWU:=λ_=>⟨0,0,aj⟩
def Valid (P:aWt) (G:B5) (f:aWF) (S:aWf->T LV):Prop:=
 ∀(args:aWf) (vals:aWz) (w:aWq) (Z:aWe->Prop) (lv:LV),(∀b,Z b->b<w.heap.size)->Q1 G Z w->AT 0 args->RL β0 Z w args vals.toList->(S args).all (λx=>x=lv)->
  Calls P f vals w λe w'=>Below w.heap.size w w'/\∃v,e=.returned v/\okV 0 lv/\R β0 (λb=>Z b\/(w.heap.size<=b/\b<w'.heap.size)) w' lv v
mutual
def noOwn_ok {n:aWe}:∀(x:LV),noOwn x=U->okV n x->okV 0 x
 | .v _,_,_=>trivial
 | .bl _,_,_=>trivial
 | .ki _ _,_,_=>trivial
 | .own _ _,h,_=>mz
 | .agg l,h,hk=>aX
 | .AO l,h,hk=>aX
 | .fn _ l,h,hk=>aX
 | .fb _ l,h,hk=>aX
 | .xq _ _,_,hk=>aOp
 | .os ..,h,_=>mz
 | .op ..,h,_=>mz
 | .om _,h,_=>mz
 | .mp _ _ l,h,hk=>aX
 | .xl _ _,_,_=>trivial
 | .junk,_,_=>trivial
def noOwnL_ok {n:aWe}:∀(x:aWf),noOwnL x=U->AT n x->AT 0 x
 | [],_,_=>trivial
 |x::xs,h,hk=>by
  simp only [AT,noOwnL,AY] at*;exact ⟨noOwn_ok x h.1 hk.1,noOwnL_ok xs h.2 hk.2⟩
end
def aEU {t:T LV}{lv:LV}(h:(Ql t).all λx=>x=lv):t.all (λx=>x=lv)/\S8 lv=true:=by
 induction t with
 |ok x=>
  simp only [Ql] at h;split at h
  ·rename_i hp;simp only [T.all] at h|-;subst h;exact ⟨rfl,hp⟩
  ·cases h
 |br b t e iht ihe=>
  cases b with
  |true=>obtain ⟨h1,h2⟩:=iht<|h.1 rfl;exact ⟨⟨λ_=>h1,λhb=>LH⟩,h2⟩
  |false=>obtain ⟨h1,h2⟩:=ihe<|h.2 rfl;exact ⟨⟨λhb=>LH,λ_=>h1⟩,h2⟩
 |req p t ih=>
  obtain ⟨h1,h2⟩:=ih h.2;exact ⟨⟨h.1,h1⟩,h2⟩
 |no=>cases h
def Oq (G:B5) (F:aWf) (β:aWe->aWU) (H:aWi) (o:aWw):aWj:=DZ β H<|Eu G F o
def Post (ds:aWT) (G:B5) (w0:aWq) (Z0:Gz) (F:aWf) (a:aWD) (β:aWe->aWU) (H:aWi) (w:aWq) (o:aWw) (lv:LV) (H':aWi) (v:aWx) (w':aWq):Prop:=
 ∃Z' β',RW G w0 Z0 Z' β' H' w'/\RF ds β' Z' w' (M H') F a/\R β' Z' w' lv v/\okV (M H') lv/\
  (M H)<=M H'/\(∀k,k<M H->β' k=β k)/\(∀k,M H<=k->k<M H'->w.heap.size<=(β' k).b\/(β' k).b∈Oq G F β H o)/\DX (Oq G F β H o) w w'
def NI {tr:aWj}{w w':aWq}(h:Below w.heap.size w w'):DX tr w w':=⟨h.os,h.tape,h.output,h.size,λk hk _=>h.block k hk⟩
def aEc {o:aWw}{lv:LV}{v:aWx}(hW:RW G w0 Z0 Z β H w) (hF:RF ds β Z w (M H) F a) (hrun:(execOp a.eval o).run P w=.ok (.value v) w) (hr:R β Z w lv v) (hk:okV (M H) lv):
  Di P (Post ds G w0 Z0 F a β H w o lv H) ((execOp a.eval o).run P w):=by
 rw [hrun];exact ⟨Z,β,hW,hF,hr,hk,At _,λ_ _=>rfl,λk h1 h2=>A0,DX.refl _ _⟩
def aDT {α:Type}{s:Sem α}{x:α}(h:J5 P s=ah x):∀w',s.run P w'=.ok x w':=λw'=>cU w' h
mutual
def eqV_run:∀(d:aWe) (t:aWu) (x y:aWx) (b:aWo),eqV P d t x y=ah b->∀(e:aWe) (w:aWq),(Go.Op.equalIn (d+e) t x y).run P w=.ok b w
 |0,_,_,_,_,h=>by simp [eqV] at h
 | d+1,t,x,y,b,h=>λe w=>by
  rw [Nat.add_right_comm];simp only [eqV] at h;split at h
  ·rename_i k0 k a k' c hu
   split at h
   ·rename_i hk
    subst hk;simp only [Ai] at h;subst h;exact run_equalIn_int w _ t k k0 a c hu
   ·cases h
  ·rename_i a c hu
   simp only [Ai] at h;subst h;exact run_equalIn_bool w _ t a c hu
  ·rename_i a c hu
   simp only [Ai] at h;subst h;rw [run_equalIn_string w _ t a c hu,beq_toListBytes]
  ·rename_i fs xs ys hu
   split at h
   ·cases h
   ·rename_i hs
    have hf:P.fieldsOf t=fs:=by simp [Program.fieldsOf,hu]
    rw [run_equalIn_struct w _ t xs ys (by rw [hf];exact hu) (by simpa using hs),hf]
    simp only [Option.map_eq_some_iff] at h;obtain ⟨l,h1,h2⟩:=h;rw [<-h2];exact eqFs_run d xs ys fs.toList l h1 e w
  ·cases h
def eqFs_run:∀(d:aWe) (xs ys:aWz) (fs:aXk) (l:aWH),eqFs P d xs ys fs=ah l->∀(e:aWe) (w:aWq),(Go.Op.eqFields (d+e) xs ys fs).run P w=.ok (V3 l) w
 |d,xs,ys,[],l,h=>λe w=>by
  have:l=[]:=by cases d<;>simpa [eqFs] using h.symm
  subst this
  simp [Go.Op.eqFields,V3]
 |0,xs,ys,f::fs,l,h=>by simp [eqFs] at h
 | d +1,xs,ys,f::fs,l,h=>λe w=>by
  simp only [eqFs] at h;split at h
  ·cases h
  ·rename_i hn
   split at h
   ·rename_i x y hx hy
    split at h
    ·rename_i p ps hp hps
     simp only [Ai] at h;subst h
     have e1:=aDT hx w
     have e2:=aDT hy w
     have e3:=eqV_run d f.type x y p hp (1+e) w
     have e4:=eqFs_run d xs ys fs ps hps (1+e) w
     rw [<-Hp] at e3 e4;simp only [Go.Op.eqFields,hn,ne_eq,not_false_eq_true,Bp,lM,e1,e2,e3,lq,Sem.run_ite,xZ,e4];cases p with
     |false=>cases ps<;>simp [V3]
     |true=>cases ps<;>simp [V3]
    ·cases h
   ·cases h
end
def afN {o:aWw}{e:aWS->aWx}{y:aWx}(h:Qp P o.op e=ah (ah y)) (w:aWq):(execOp e o).run P w=.ok (.value y) w:=by
 unfold Qp at h;split at h
 ·rename_i op t x z t' ho
  split at h
  ·rename_i neg hneg
   split at h
   ·rename_i xs ys hx hy
    split at h
    ·rename_i g1 b g2 g3
     have e1:=aDT g2 w
     have e2:=eqV_run 100 t _ _ b g3 9900 w
     simp only [Ai] at h;unfold aSn at hneg;split at hneg
     ·simp only [Ai] at hneg
      subst hneg h
      simp [execOp,ho,hx,hy,e1,run_eql_struct,e2]
     ·simp only [Ai] at hneg
      subst hneg h
      simp [execOp,ho,hx,hy,e1,run_neq_struct,e2]
     ·cases hneg
    ·cases h
   ·cases h
  ·cases h
 ·cases h
def aGR {o:aWw}{e:aWS->aWx}{y:aWx}(h:OI P o e=ah y) (w:aWq):(execOp e o).run P w=.ok (.value y) w:=by
 unfold OI at h;split at h
 ·rename_i r hr
  subst h;exact afN hr w
 ·split at h
  ·rename_i z hz
   simp only [Ai] at h;subst h;exact cU w hz
  ·cases h
def aLk (y:aWx):R β Z w (kn y) y:=by cases y<;>simp only [kn,R]
def abU {n:aWe}(y:aWx):okV n (kn y):=by cases y<;>trivial
def af5 {o:aWw}{lv:LV}(hsel:∀cs b,o.op≠ .select cs b) (hW:RW G w0 Z0 Z β H w) (hF:RF ds β Z w (M H) F a) (h:(Dk P G F o).all λx=>x=lv):
  Di P (Post ds G w0 Z0 F a β H w o lv H) ((execOp a.eval o).run P w):=by
 unfold Dk at h;split at h
 ·rename_i hpl
  split at h
  ·rename_i y hy
   have hcong:execOp a.eval o=execOp (λx=>(pl<|AL G F x).getD undef) o:=lz o hsel λx hx=>by
    have h1:=BO.1 hpl x A8
    obtain ⟨z,hz⟩:=Zh.1 h1;rw [hz];exact Ck hz (hF.eval hW.Cb x).1
   refine aEc hW hF (v:=y) ?_ ?_ ?_
   ·rw [hcong];exact aGR hy w
   ·rw [<-h]
    split
    ·exact aLk y
    ·exact Dw
   ·rw [<-h]
    split
    ·exact abU y
    ·trivial
  ·cases h
 ·cases h
def adO {c x y lv:LV}{vc vx vy:aWx}{n:aWe}(h:(iY c x y).all λz=>z=lv) (hc:R β Z w c vc) (hx:R β Z w x vx) (hy:R β Z w y vy) (kx:okV n x) (ky:okV n y):
  ∃g,vc=.bool g/\R β Z w lv (if g then vx else vy)/\okV n lv:=by
 unfold iY at h;split at h
 ·simp only [T.all] at h;subst h;exact ⟨U,hc,hx,kx⟩
 ·simp only [T.all] at h;subst h;exact ⟨X,hc,hy,ky⟩
 ·rename_i g
  refine ⟨g,hc,?_⟩
  have hx':=Ow hx
  have hy':=Ow hy
  split at h
  ·rename_i h1 h2
   split at h
   ·rename_i hk;simp only [T.all] at h;subst h hk;rw [h1] at hx';rw [h2] at hy';simp only [R] at hx' hy'|-;subst hx' hy';exact ⟨A8,ak⟩
   ·cases h
  ·rename_i h1 h2
   simp only [T.all] at h;subst h;rw [h1] at hx';rw [h2] at hy';simp only [R] at hx' hy'|-;subst hx' hy';exact ⟨A8,ak⟩
  ·simp only [T.all] at h
   cases g with
   |true=>have:=h.1 rfl;subst this;exact ⟨hx,kx⟩
   |false=>have:=h.2 rfl;subst this;exact ⟨hy,ky⟩
 ·cases h
def aEm {t:aWu}{l:aWf}{lv:LV}{ys:aWz}{i n:aWe}(h:(wV P t l i).all λz=>z=lv) (hr:RL β Z w l ys.toList) (hk:AT n l):
  ∃z,(∀w',(Instr.field t (.agg ys) i).run P w'=.ok z w')/\R β Z w lv z/\okV n lv:=by
 unfold wV at h;split at h
 ·rename_i fs hu
  split at h
  ·rename_i f hf
   split at h
   ·rename_i m ha hs
    split at h
    ·simp only [T.all] at h
     subst h;refine ⟨.agg<|ys.extract f.offset<|f.offset+m,λw'=>?_,W9 ?_,QT<|hk.take_drop _ _⟩
     ·simp [Instr.field,CZ hu,hf,asAgg,part,cj ha,run_sizeOf hs]
     ·have:=hr.take_drop f.offset m
      simp_all
    ·cases h
   ·rename_i ha
    split at h
    ·rename_i y hy
     subst h;obtain ⟨z,e4,e5⟩:=RL.get _ _ hr hy
     have e6:ys[f.offset]? =ah z:=A8
     refine ⟨z,λw'=>?_,e5,AT.get _ _ hk hy⟩
     simp [Instr.field,CZ hu,hf,asAgg,part,cj ha,e6]
    ·cases h
   ·cases h
  ·cases h
 ·cases h
def adH {s:aWu}{x lv:LV}{y:aWx}{i n:aWe}(h:(X2 P s x i).all λz=>z=lv) (hr:R β Z w x y) (hk:okV n x):
  ∃z,(∀w',(Instr.fieldAt s y i).run P w'=.ok z w')/\R β Z w lv z/\okV n lv:=by
 unfold X2 at h;split at h
 ·rename_i fs hu
  split at h
  ·rename_i f hf
   split at h
   ·rename_i m hsz
    have e1:=λw=>run_sizeOf hsz w
    split at h
    ·rename_i k off
     simp only [R] at hr;refine ⟨.pointer<|ah ⟨(β k).b,off+f.offset,aj⟩,λw'=>?_,?_,?_⟩
     ·simp [Instr.fieldAt,CZ hu,hf,Instr.sureAddr,hr,fieldPlace,e1,addr_add]
     ·rw [<-h];simp only [R]
     ·rw [<-h];simpa only [okV] using hk
    ·rename_i k es i' j
     obtain ⟨hcap,hr⟩:=hr;refine ⟨.pointer<|ah ⟨(β k).b,(β k).o+i'*es+(j+f.offset),aj⟩,λw'=>?_,?_,?_⟩
     ·simp [Instr.fieldAt,CZ hu,hf,Instr.sureAddr,hr,fieldPlace,e1,addr_add,Hp]
     ·rw [<-h];simp only [R];exact ⟨hcap,ak⟩
     ·rw [<-h];simpa only [okV] using hk
    ·rename_i q g
     split at h
     ·rename_i hle
      obtain ⟨b,off,h1,h2,h3⟩:=hr;refine ⟨.pointer<|ah ⟨b,off+f.offset,aj⟩,λw'=>?_,?_,?_⟩
      ·simp [Instr.fieldAt,CZ hu,hf,Instr.sureAddr,h1,fieldPlace,e1,addr_add]
      ·rw [<-h]
       refine ⟨b,off+f.offset,rfl,h2,λj hj=>?_⟩
       have:=h3 (f.offset+j) A0
       grind
      ·rw [<-h];simp only [okV] at hk|-;exact λj=>hk _
     ·cases h
    ·cases h
   ·cases h
  ·cases h
 ·cases h
def cR {n:Y}{g:aWe->LV}{lv:LV}:∀(m j:aWe),(chain n g m j).all (λz=>z=lv)->∃i,j<=i/\i<j+m/\n=(i:Y)/\lv=g i
 |0,j,h=>Ao
 | m+1,j,h=>by
  simp only [chain,T.all] at h
  by_cases hn:n=(j:Y)
  ·grind
  ·obtain ⟨i,h1,h2,h3,h4⟩:=cR m (j+1) (h.2 A8)
   grind
def aEh {x:LV}{y:aWx}{l:aWf}{n:aWe}(h:wX x=ah l) (hr:R β Z w x y) (hk:okV n x):∃ys:aWz,y=.agg ys/\RL β Z w l ys.toList/\AT n l:=by
 unfold wX at h;split at h
 ·obtain rfl:=EF h
  obtain ⟨ys,e1,e2⟩:=hr;exact ⟨ys,e1,e2,hk⟩
 ·rename_i ys
  obtain rfl:=EF h;exact ⟨ys,hr,Uk _,Td _ _⟩
 ·cases h
def aES {t:aWu}{l:aWf}{q lv:LV}{ys:aWz}{z:aWx}{n:aWe}(h:(wK P t l q).all λr=>r=lv) (hr:RL β Z w l ys.toList) (hk:AT n l) (hq:R β Z w q z):
  ∃v,(∀w',(Instr.index t (.agg ys) z).run P w'=.ok v w')/\R β Z w lv v/\okV n lv:=by
 unfold wK at h;split at h
 ·rename_i len e k j hu
  split at h
  ·rename_i y ha hs hy
   split at h
   ·rename_i hb
    subst h;simp only [R] at hq;obtain ⟨v,e4,e5⟩:=RL.get _ _ hr hy
    have e6:ys[j.toNat]? =ah v:=A8
    refine ⟨v,λw'=>?_,e5,AT.get _ _ hk hy⟩
    simp [Instr.index,hq,asIntOf,CZ hu,hb.1,hb.2,part,cj ha,run_sizeOf hs,e6]
   ·cases h
  ·cases h
 ·cases h
def aDH {t:aWu} {x q lv:LV} {y z:aWx} {c:aWo} {N:aWe} (h:(Ta P t x c q).all λr=>r=lv) (hr:R β Z w x y) (hq:R β Z w q z) (hk:okV N x):
  ∃v,(∀w',(Instr.indexAt t y z).run P w'=.ok v w')/\R β Z w lv v/\okV N lv:=by
 unfold Ta at h;simp only [awE] at h;split at h
 ·rename_i kd n hpl
  have hz:=Ck hpl hq
  split at h
  ·rename_i len e hu
   split at h
   ·rename_i m hsz
    have e1:=λw=>run_sizeOf hsz w
    have fin:∀(b off i:aWe),i<len->n=(i:Y)->y=.pointer (ah ⟨b,off,aj⟩)->∀w',(Instr.indexAt t y z).run P w'=.ok (.pointer<|ah ⟨b,off+i*(m+1),aj⟩) w':=λb off i hi hn hy w'=>by
     have h0:(0:Y)<=n:=A0
     have h1:n<(len:Y):=A0
     have h2:n.toNat=i:=A0
     simp [Instr.indexAt,hz,asIntOf,CZ hu,hy,Instr.sureAddr,h0,h1,e1,addr_add,h2]
    have own:∀(k off i:aWe),i<len->n=(i:Y)->R β Z w (.own k off) y->okV N (.own k off)->lv=.own k (off+i*(m+1))->∃v,(∀w',(Instr.indexAt t y z).run P w'=.ok v w')/\R β Z w lv v/\okV N lv:=λk off i hi hn hr hk hl=>by
     simp only [R] at hr;refine ⟨_,fin _ _ i hi hn hr,?_,?_⟩
     ·rw [hl];simp only [R]
     ·exact yI
    have opp:∀(k es i' j i:aWe),i<len->n=(i:Y)->R β Z w (.op k es i' j) y->okV N (.op k es i' j)->lv=.op k es i' (j+i*(m+1))->∃v,(∀w',(Instr.indexAt t y z).run P w'=.ok v w')/\R β Z w lv v/\okV N lv:=λk es i' j i hi hn hr hk hl=>by
     simp only [R] at hr;refine ⟨_,fin _ _ i hi hn hr.2,?_,?_⟩
     ·rw [hl];simp only [R,Hp];exact ⟨hr.1,ak⟩
     ·exact yI
    have ext:∀(q:aWe) (g:aWe->LV) (i:aWe),i<len->len*(m+1)<=q->n=(i:Y)->R β Z w (.xq q g) y->okV N (.xq q g)->lv=.xq (m+1) (λj=>g<|i*(m+1)+j)->∃v,(∀w',(Instr.indexAt t y z).run P w'=.ok v w')/\R β Z w lv v/\okV N lv:=λq g i hi hle hn hr hk hl=>by
     simp only [R] at hr;obtain ⟨b,off,h1,h2,h3⟩:=hr;refine ⟨_,fin _ _ i hi hn h1,?_,?_⟩
     ·rw [hl]
      simp only [R];refine ⟨b,_,rfl,h2,λj hj=>?_⟩
      have hm:i*(m+1)+(m+1)<=len*(m+1):=by
       have:=N6 (m+1) (show i+1<=len by omega)
       rwa [GC,Sc] at this
      have:=h3 (i*(m+1)+j) A0
      rwa [<-Hp] at this
     ·rw [hl];simp only [okV] at hk|-;exact λj=>hk _
    split at h
    ·rename_i k es i' j
     split at h
     ·split at h
      ·rename_i hb
       simp only [T.all] at h;exact opp k es i' j n.toNat A0 A0 hr hk h.symm
      ·cases h
     ·obtain ⟨i,_,h2,h3,h4⟩:=cR _ _ h
      exact opp k es i' j i A0 h3 hr hk h4
    ·rename_i k off
     split at h
     ·split at h
      ·rename_i hb
       simp only [T.all] at h;exact own k off n.toNat A0 A0 hr hk h.symm
      ·cases h
     ·obtain ⟨i,_,h2,h3,h4⟩:=cR _ _ h
      exact own k off i A0 h3 hr hk h4
    ·rename_i q g
     split at h
     ·rename_i hle
      split at h
      ·split at h
       ·rename_i hb
        simp only [T.all] at h;exact aO2
       ·cases h
      ·split at h
       ·obtain ⟨i,_,h2,h3,h4⟩:=cR _ _ h
        exact ext q g i A0 hle h3 hr hk h4
       ·simp only [T.all] at h
        obtain ⟨⟨b1,b2⟩,h⟩:=h;exact aO2
     ·cases h
    ·cases h
   ·cases h
  ·rename_i e hu
   split at h
   ·rename_i m e' l hsz
    split at h
    ·rename_i hes
     simp only [T.all] at h;obtain ⟨⟨h0,h1⟩,h2⟩:=h;simp only [R] at hr;obtain ⟨ad,cap,g1,gc,g2⟩:=hr;obtain ⟨b,off,g3,g4,g5⟩:=g2 A0
     have e1:=λw=>run_sizeOf hsz w
     have hlt:n.toNat<M l:=A0
     have hgx:l[n.toNat]? =ah (gx l n):=A8
     have g6:=g5 n.toNat _ hgx
     refine ⟨.pointer<|ah ⟨b,off+n.toNat*(m+1),aj⟩,λw'=>?_,?_,?_⟩
     ·simp [Instr.indexAt,hz,asIntOf,CZ hu,g1,g3,h0,h1,e1,addr_add]
     ·rw [<-h2]
      simp only [R];refine ⟨b,_,rfl,g4,λj hj=>?_⟩
      rw [hes] at g6
      have hjl:j<M (Bq e'<|gx l n):=yi
      exact X3 e' _ b _ g6 j _<|getD_lt hjl
     ·rw [<-h2]
      simp only [okV];exact λj=>fR (NV 0 e' _) j
    ·cases h
   ·rename_i m k es off len hsz
    split at h
    ·rename_i hes
     simp only [T.all] at h;obtain ⟨⟨h0,h1⟩,h2⟩:=h
     have e1:=λw=>run_sizeOf hsz w
     simp only [R] at hr;split at hr
     ·obtain ⟨rfl,_,_⟩:=hr
      exact absurd h1 DD
     ·rename_i c hcap
      obtain ⟨g1,ad,g2,g3⟩:=hr
      have g3:=g3 A0
      refine ⟨.pointer<|ah ⟨(β k).b,(β k).o+(off+n.toNat)*es+0,aj⟩,λw'=>?_,?_,?_⟩
      ·simp [Instr.indexAt,hz,asIntOf,CZ hu,g2,g3,h0,h1,e1,addr_add,hes,GC,Hp]
      ·rw [<-h2];simp only [R];exact ⟨by rw [hcap];simp,ak⟩
      ·rw [<-h2];simpa only [okV] using hk
    ·cases h
   ·rename_i m k es off len cp hsz
    split at h
    ·rename_i hes
     have e1:=λw=>run_sizeOf hsz w
     have own:∀(i:aWe),i<len->n=(i:Y)->lv=.own k ((off+i)*(m+1))->∃v,(∀w',(Instr.indexAt t y z).run P w'=.ok v w')/\R β Z w lv v/\okV N lv:=λi hi hn hl=>by
      simp only [R] at hr;obtain ⟨g1,ad,g2,g3⟩:=hr
      have g3:=g3 A0
      have h0:(0:Y)<=n:=A0
      have h1:n<(len:Y):=A0
      have h2:n.toNat=i:=A0
      refine ⟨.pointer<|ah ⟨(β k).b,(off+i)*(m+1),aj⟩,λw'=>?_,?_,?_⟩
      ·simp [Instr.indexAt,hz,asIntOf,CZ hu,g2,g3,h0,h1,e1,addr_add,hes,GC,h2]
      ·rw [hl];simp only [R]
      ·exact yI
     split at h
     ·split at h
      ·rename_i hb
       simp only [T.all] at h;exact own n.toNat A0 A0 h.symm
      ·cases h
     ·obtain ⟨i,_,h2,h3,h4⟩:=cR _ _ h
      exact own i A0 h3 h4
    ·cases h
   ·cases h
  ·cases h
 ·cases h
def aGX (off:aWe):∀(l:aWv) (s:aWe) (zs:aWz) (i:aWe),off+s+M l<=zs.size->
  ((l.zipIdx s).foldl (λ(cs:aWz) p=>cs.setIfInBounds (off+p.2) p.1) zs).size=zs.size/\
  ((l.zipIdx s).foldl (λ(cs:aWz) p=>cs.setIfInBounds (off+p.2) p.1) zs)[i]? =if off+s<=i/\i<off+s+M l then l[i-(off+s)]? else zs[i]?
 | [],s,zs,i,_=>by simp;intro h1 h2;omega
 | x::xs,s,zs,i,h=>by
  simp only [List.zipIdx_cons,KE];obtain ⟨h1,h2⟩:=aGX off xs (s+1) (zs.setIfInBounds (off+s) x) i A8;refine ⟨A8,?_⟩;rw [h2];simp only [Bj] at h|-
  by_cases hi:i=off+s
  ·subst hi
   rw [AE A0,AD A0,Array.getElem?_setIfInBounds,AD rfl,AD A0]
   simp
  ·by_cases hr:off+(s+1)<=i/\i<off+(s+1)+M xs
   ·rw [AD hr,AD A0]
    grind
   ·rw [AE hr,AE A0]
    grind
def af0 (off:aWe) (vs zs:aWz) (h:off+vs.size<=zs.size):
  (vs.zipIdx.foldl (λ(cs:aWz) (p:Value×Nat)=>cs.setIfInBounds (off+p.2) p.1) zs).toList=zs.toList.take off++vs.toList++zs.toList.drop (off+M vs.toList):=by
 have e:vs.zipIdx.foldl (λ(cs:aWz) (p:Value×Nat)=>cs.setIfInBounds (off+p.2) p.1) zs=(vs.toList.zipIdx 0).foldl (λ(cs:aWz) p=>cs.setIfInBounds (off+p.2) p.1) zs:=by
  rw [<-Array.foldl_toList];simp
 rw [e]
 apply List.ext_getElem?
 intro i
 have:=(aGX off vs.toList 0 zs i A8).2
 rw [Array.getElem?_toList,this];simp only [Zz,xV]
 by_cases h1:i<off
 ·grind
 ·by_cases h2:i<off+vs.size
  ·rw [AD A0,Ct,GY A8,Hj A8]
   grind
  ·rw [AE A0,GY A8,FP]
   simp
   congr 1
   omega
def cQ {place:aWe->aXd}{n:aWe}:∀(pl:aWI) (pv:List<|Nat×Value) (cells cs:aWf) (zs:aWz),Kj place cells pl=ah cs->pv.map (·.1)=pl.map (·.1)->
  RL β Z w (pl.map (·.2)) (pv.map (·.2))->AT n (pl.map (·.2))->RL β Z w cells zs.toList->AT n cells->∃zs',Instr.fill place zs pv=ah zs'/\RL β Z w cs zs'.toList/\AT n cs
 | [],pv,cells,cs,zs,h,hp,hr,_,hc,hok=>by
  simp only [Kj,Ai] at h;subst h
  have:pv=[]:=GD
  subst this;exact ⟨zs,rfl,hc,hok⟩
 | (i,x)::rest,pv,cells,cs,zs,h,hp,hr,hk,hc,hok=>by
  cases pv with
  |nil=>simp at hp
  | cons q qs=>
   obtain ⟨i',v⟩:=q;simp only [ET,Ho] at hp;obtain ⟨rfl,hp'⟩:=hp;obtain ⟨y,ys,e1,e2,e3⟩:=hr;obtain ⟨rfl,rfl⟩:=e1;simp only [Kj] at h;split at h
   ·rename_i off size c hpl hcl
    split at h
    ·rename_i hle
     obtain ⟨c1,c2⟩:=pY hcl e2
     have c3:=pK hcl hk.1
     have l1:=RL.length c1
     have l2:=RL.length hc
     have hle2:off+v.cells.size<=zs.size:=A8
     have hset:=af0 off v.cells zs hle2
     have hrl:=RL.setAt hc c1 off
     rw [<-hset] at hrl;obtain ⟨zs',f1,f2,f3⟩:=cQ rest qs _ cs _ h hp' e3 hk.2 hrl<|AT.setAt hok c3 off;refine ⟨zs',?_,f2,f3⟩;simp only [Instr.fill,hpl]
     grind
    ·cases h
   ·cases h
def adI {t:aWu}{pl:aWI}{pv:aW7}{lv:LV}{n:aWe}(h:(Nc P t pl).all λz=>z=lv) (hp:pv.toList.map (·.1)=pl.map (·.1)) (hr:RL β Z w (pl.map (·.2))<|pv.toList.map (·.2)) (hk:AT n<|pl.map (·.2)):
  ∃v,(∀w',(Instr.build t pv).run P w'=.ok v w')/\R β Z w lv v/\okV n lv:=by
 unfold Nc at h;split at h
 ·rename_i z pf hz hpf
  split at h
  ·rename_i cs hcs
   obtain ⟨zs',f1,f2,f3⟩:=cQ (β:=β) (Z:=Z) (w:=w) (n:=n) pl pv.toList _ cs z.cells hcs hp hr hk (Uk _)<|Td _ _;refine ⟨.agg zs',λw'=>run_build w' t pv zs' ?_,?_,?_⟩
   ·unfold IV at hz
    unfold aQw at hpf;unfold Program.built;cases hi:P.info? t with
    |none=>simp [hi] at hz
    | some it=>
     simp only [hi,OR] at hz;split at hpf
     ·rename_i fields hu
      cases hm:fields.toList.mapM (λf=>(P.info? f.type).map λi=>(f.offset,i.size)) with
      |none=>simp [hm] at hpf
      |some ps=>
       simp only [hm,Jh,Ai] at hpf;simp only [hu,hz,hm];rw [<-hpf] at f1;exact f1
     ·rename_i e hu
      cases hm:P.info? e with
      |none=>simp [hm] at hpf
      |some ie=>
       simp only [hm,Jh,Ai] at hpf;simp only [hu,hz,hm];rw [<-hpf] at f1;exact f1
     ·cases hpf
   ·rw [<-h]
    split
    ·simp only [R];exact ⟨zs',rfl,f2⟩
    ·exact W9 f2
   ·rw [<-h]
    split
    ·exact f3
    ·exact QT f3
  ·cases h
 ·cases h
def eY {x:aWS}{y:aWx}{n:aWe}(h:R β Z w (AL G F x) y/\okV n (AL G F x)):R β Z w (Hx G F x) y/\okV n (Hx G F x):=by
 cases x with
 |const v=>exact ⟨Ow h.1,TE h.2⟩
 |tmp t=>exact h
 |global g=>exact h
 |func f=>exact h
def vW (e:Ty):∀(n:aWe) (cs:aWf) (l:List e.D) (ys:aWv),bh e n cs=ah l->RL β Z w cs ys->M l=n/\∀(Z':aWe->Prop) (w':aWq) (b o:aWe),(∀b,Z b->Z' b)->(∀b,Z b->w'.heap[b]? =w.heap[b]?)->(∀(j:aWe) v,ys[j]? =ah v->w'.cell? ⟨b,o+j,aj⟩=ah v)->∀(i:aWe) (d:e.D),l[i]? =ah d->RD Z' w' e d b (o+i*e.n)
 |0,cs,l,ys,h,hr=>by
  simp only [bh,Ai] at h
  grind
 | n +1,cs,l,ys,h,hr=>by
  simp only [bh] at h;split at h
  ·rename_i d r hd hr'
   simp only [Ai] at h;subst h
   have h1:RL β Z w (cs.take e.n) (ys.take e.n):=by simpa using hr.take_drop 0 e.n
   have h2:RL β Z w (cs.drop e.n) (ys.drop e.n):=by
    refine RL.CU (by simp [RL.length hr]) λi z hz=>?_
    rw [FP] at hz|-;exact RL.get _ _ hr hz
   obtain ⟨k1,k2⟩:=vW e n _ r _ hr' h2;refine ⟨A8,λZ' w' b o hZ hw hc i d' hd'=>?_⟩
   cases i with
   |zero=>
    simp at hd'
    subst hd';rw [mF,Zz];refine vX hZ hw e _ d _ hd h1 b o λj v hv=>?_
    rw [LD] at hv;split at hv
    ·grind
    ·cases hv
   | succ i=>
    have:=k2 Z' w' b (o+e.n) hZ hw (λj v hv=>by
     rw [FP] at hv
     have:=hc (e.n+j) v hv
     rwa [<-Hp] at this) i d' hd'
    grind
  ·cases h
def aEY {t:aWu}{len:aWe}{pl:aWI}{pv:aW7}{lv:LV}{n:aWe}(h:(L7 P t len pl).all λz=>z=lv) (hp:pv.toList.map (·.1)=pl.map (·.1)) (hr:RL β Z w (pl.map (·.2))<|pv.toList.map (·.2)) (hk:AT n<|pl.map (·.2)):
  ∃elem cells,(∀w',(Instr.buildSlice t len pv).run P w'=.ok (.slice (ah ⟨w'.heap.size,0,aj⟩) len len) (w'.alloc<|.cells cells elem))/\
   (∀(β':aWe->aWU) (Z':aWe->Prop) (w':aWq) (b:aWe),(∀b,Z b->Z' b)->(∀b,Z b->w'.heap[b]? =w.heap[b]?)->(∀(j:aWe) v,cells.toList[j]? =ah v->w'.cell? ⟨b,0+j,aj⟩=ah v)->Z' b->R β' Z' w' lv (.slice (ah ⟨b,0,aj⟩) len len))/\okV n lv:=by
 unfold L7 at h;split at h
 ·rename_i e hu
  split at h
  ·rename_i ty m z hty hsz hz
   split at h
   ·rename_i hcond
    split at h
    ·rename_i cs hcs
     split at h
     ·rename_i l hl
      have hz0:RL β Z w ((au<|len*m).map λi=>LV.v<|z.cells[i%z.cells.size]!) ((Array.range<|len*m).map λi=>z.cells[i%z.cells.size]!).toList:=by
       exact xp
      have hok0:AT n ((au<|len*m).map λi=>LV.v<|z.cells[i%z.cells.size]!):=by
       exact aMt
      obtain ⟨zs',f1,f2,f3⟩:=cQ (β:=β) (Z:=Z) (w:=w) (n:=n) pl pv.toList _ cs _ hcs hp hr hk hz0 hok0;obtain ⟨k1,k2⟩:=vW ty len cs l _ hl f2;refine ⟨e,zs',λw'=>?_,λβ' Z' w' b hZ hw hc hzb=>?_,by rw [<-h];trivial⟩
      ·exact xU
      ·rw [<-h]
       refine ⟨_,len,by rw [k1],A0,λ_=>⟨b,0,rfl,hzb,λi d hd=>?_⟩⟩
       exact k2 Z' w' b 0 hZ hw hc i d hd
     ·cases h
    ·cases h
   ·cases h
  ·cases h
 ·cases h
def aF9 {place:aWe->aXd}:∀ {pl:aWI}{cells cs:aWf},Kj place cells pl=ah cs->M cs=M cells
 | [],cells,cs,h=>by
  simp only [Kj,Ai] at h;rw [h]
 | (i,x)::rest,cells,cs,h=>by
  simp only [Kj] at h;split at h
  ·split at h
   ·rename_i off size c _ _ hcond
    rw [aF9 h];simp only [setAt,BL,MA,FO];omega
   ·cases h
  ·cases h
def apZ {t e:aWu}{ty:Ty}{l:List ty.D}{len:aWe}{pl:aWI}{pv:aW7}{n:aWe}(hu:P.underlying t=ah (.slice e)) (h:(L7 P t len pl).all λz=>z=.xl ty l) (hp:pv.toList.map (·.1)=pl.map (·.1)) (hr:RL β Z w (pl.map (·.2))<|pv.toList.map (·.2)) (hk:AT n<|pl.map (·.2)):
  ∃cells:aWz,(∀w',(Instr.buildSlice t len pv).run P w'=.ok (.slice (ah ⟨w'.heap.size,0,aj⟩) len len) (w'.alloc<|.cells cells e))/\M l=len/\cells.size=len*ty.n/\
   (∀(w':aWq) (b:aWe),(∀b,Z b->w'.heap[b]? =w.heap[b]?)->(∀(j:aWe) v,cells.toList[j]? =ah v->w'.cell? ⟨b,0+j,aj⟩=ah v)->∀(i:aWe) (d:ty.D),l[i]? =ah d->RD Z w' ty d b (0+i*ty.n)):=by
 unfold L7 at h;rw [hu] at h;simp only at h;split at h
 ·rename_i ty0 m z hty hsz hz
  split at h
  ·rename_i hcond
   split at h
   ·rename_i cs hcs
    split at h
    ·rename_i l0 hl
     simp only [T.all,LV.xl.injEq] at h;obtain ⟨rfl,h⟩:=h;obtain rfl:=eq_of_heq h
     have hz0:RL β Z w ((au<|len*m).map λi=>LV.v<|z.cells[i%z.cells.size]!) ((Array.range<|len*m).map λi=>z.cells[i%z.cells.size]!).toList:=by
      exact xp
     have hok0:AT n ((au<|len*m).map λi=>LV.v<|z.cells[i%z.cells.size]!):=by
      exact aMt
     obtain ⟨zs',f1,f2,f3⟩:=cQ (β:=β) (Z:=Z) (w:=w) (n:=n) pl pv.toList _ cs _ hcs hp hr hk hz0 hok0;obtain ⟨k1,k2⟩:=vW ty0 len cs l0 _ hl f2
     have hcl:=aF9 hcs
     have hsz2:zs'.size=len*m:=by
      have:=RL.length f2
      grind
     refine ⟨zs',λw'=>?_,k1,A8,λw' b hw hc i d hd=>k2 Z w' b 0 (λ_ h=>h) hw hc i d hd⟩
     exact xU
    ·cases h
   ·cases h
  ·cases h
 ·cases h
def ael {t:aWu}{len:aWe}{vs:aWI}{pv:aW7}{lv:LV}{H':aWi}(hW:RW G w0 Z0 Z β H w) (h:(ba P H t len vs).all λq=>q=(lv,H')) (hp:pv.toList.map (·.1)=vs.map (·.1))
  (hargs:RL β Z w (vs.map (·.2))<|pv.toList.map (·.2)) (hoka:AT (M H)<|vs.map (·.2)):
  ∃w' v Z' β',(Instr.buildSlice t len pv).run P w=.ok v w'/\Below w.heap.size w w'/\(∀b,Z b->Z' b)/\(∀k,k<M H->β' k=β k)/\RW G w0 Z0 Z' β' H' w'/\R β' Z' w' lv v/\okV (M H') lv/\M H'=M H+1/\(β'<|M H).b=w.heap.size:=by
 unfold ba at h;split at h
 ·rename_i hcl
  obtain ⟨y,h1,h2⟩:=T.B8 h;obtain ⟨_,hg,h1⟩:=T.B8 h1;split at h2
  ·rename_i e ty l hu _
   obtain ⟨rfl,rfl⟩:=h2
   have hG:=T.BY (K':=λ_=>True) (λ_ _=>trivial) hg
   obtain ⟨c1,c2⟩:=Ss hcl
   have hP:=hW.pub<|reach H 64 (ownsL<|vs.map (·.2)) []
   have hH:=λk b hb=>(hW.blk k b hb).2
   have hr0:RL β (ZP Z β H λk=>k∈reach H 64 (ownsL<|vs.map (·.2)) []) w ((vs.map (·.2)).map<|C1 H 6) (pv.toList.map (·.2)):=
    TD (S:=λk=>k∈reach H 64 (ownsL<|vs.map (·.2)) []) hargs hoka c1 (λx y hm hs hx hr=>MV hW c2 6 x y (Og hG x hm) hs hx hr)
   have hok0:AT 0 ((vs.map (·.2)).map<|C1 H 6):=by
    exact aMN
   have emap:(vs.map λq=>(q.1,C1 H 6 q.2)).map (·.2)=(vs.map (·.2)).map (C1 H 6):=AI
   obtain ⟨cells,e1,e2,e3,e4⟩:=apZ (β:=β) (Z:=ZP Z β H λk=>k∈reach H 64 (ownsL<|vs.map (·.2)) []) (w:=w) (n:=0) (pv:=pv) hu h1 GD (by rw [emap];exact hr0) (by rw [emap];exact hok0)
   have hbw:Below w.heap.size w (w.alloc<|.cells cells e):=(Below.refl _ _).alloc (At _) _
   have hblk:(w.alloc<|.cells cells e).heap[w.heap.size]? =ah (.cells cells e (0,0)):=by
    exact aD
   obtain ⟨β',b1,b2,b3⟩:=(hP.same hbw).Km (ℓ:=⟨w.heap.size,0,ah len⟩) (nb:=⟨[],e,.vec ty l,X⟩) rfl ⟨ak,ak⟩
    (λ_=>⟨λhz=>by have:=hP.Bc _ hz;simp only at this;omega,hW.below.size,λj bj hj lj e=>by have:=hP.lt hj lj;simp only at e;omega⟩) (λβ' g1 g2=>by
     simp only [BZ,g2];refine ⟨cells,hblk,A0,A0,λj d' hd'=>?_⟩
     exact e4 _ w.heap.size (λb hz=>EG hbw<|hP.Bc b hz) (λj v hv=>by
      simpa using hv) j d' hd')
   simp only [KK] at b1 b2 b3;exact ⟨_,_,_,β',e1 w,hbw,λ_ h=> .inl h,b1,b3,aOA,by simp [okV,KK],by simp [KK],Vg⟩
  ·cases h2
 ·cases h
def aen {t:aWu}{len:aWe}{pl:aWI}{pv:aW7}{lv:LV}{H':aWi}(hW:RW G w0 Z0 Z β H w) (h:(nY P H t len pl).all λq=>q=(lv,H')) (hp:pv.toList.map (·.1)=pl.map (·.1)) (hr:RL β Z w (pl.map (·.2))<|pv.toList.map (·.2)) (hk:AT (M H)<|pl.map (·.2)):
  ∃w' v,(Instr.buildSlice t len pv).run P w=.ok v w'/\Below w.heap.size w w'/\∃β',(∀k,k<M H->β' k=β k)/\RW G w0 Z0 Z β' H' w'/\R β' Z w' lv v/\okV (M H') lv/\M H'=M H+1/\(β'<|M H).b=w.heap.size:=by
 unfold nY at h;split at h
 ·rename_i e hu
  split at h
  ·rename_i m z hsz hz
   split at h
   ·rename_i hc
    split at h
    ·rename_i cs hcs
     obtain ⟨rfl,rfl⟩:=h
     have hz0:RL β Z w ((au<|len*m).map λi=>LV.v<|z.cells[i%z.cells.size]!) ((Array.range<|len*m).map λi=>z.cells[i%z.cells.size]!).toList:=by
      exact xp
     have hok0:AT (M H) ((au<|len*m).map λi=>LV.v<|z.cells[i%z.cells.size]!):=by
      have:=Td (M H)<|(au<|len*m).map λi=>z.cells[i%z.cells.size]!
      simpa [HK,Zj] using this
     obtain ⟨zs',f1,f2,f3⟩:=cQ (β:=β) (Z:=Z) (w:=w) (n:=M H) pl pv.toList _ cs _ hcs hp hr hk hz0 hok0;obtain ⟨β',b1,b2,b3,b4⟩:=hW.alloc (t:=e) f2 f3
     have hbw:Below w.heap.size w (w.alloc<|.cells zs' e):=(Below.refl _ _).alloc (At _) _
     refine ⟨w.alloc<|.cells zs' e,.slice (ah ⟨w.heap.size,0,aj⟩) len len,?_,hbw,β',b1,b3,?_,ME,AI,b2⟩
     ·exact xU
     ·simp only [R,b2]
      grind
    ·cases h
   ·cases h
  ·cases h
 ·cases h
def TC {o:aWw}{g:aWF}{l:aWf}{lv:LV}{H':aWi}(h:(Lf P Γ H o g l).all λq=>q=(lv,H')):∃fn S,P.funcs[g]? =ah fn/\¬fn.body=aj/\¬fn.name= "runtime.NumGoroutine"/\Γ g=ah S/\
  (if noOwnL l then (S l).bind λy=>(T.ok (y,H):T<|LV×List AB)
      else if LP P 8 o.type then ((GK (EZ H 6) l).bind λ_=>Ql<|S<|l.map<|C1 H 6).bind λy=> .ok (y,H)
      else if KT H (reach H 64 (ownsL l) []) l then ((GK (EZ H 6) l).bind λ_=>S<|l.map<|C1 H 6).bind λy=> .ok (y,Ft (reach H 64 (ownsL l) []) 0 H) else .no).all (λq=>q=(lv,H')):=by
 unfold Lf at h;split at h
 ·rename_i fn hfn
  split at h
  ·rename_i hb
   split at h
   ·rename_i S hS
    grind
   ·cases h
  ·cases h
 ·cases h
def aFD {o:aWw}{lv:LV}(hΓ:∀g S,Γ g=ah S->Valid P G g S) (hW:RW G w0 Z0 Z β H w) (hF:RF ds β Z w (M H) F a) {g:aWF}{vals:aWz}(hrun:(execOp a.eval o).run P w=.ok (.enter g vals) w)
  {H':aWi} {l:aWf} (hargs:RL β Z w l vals.toList) (hoka:AT (M H) l) (h:(Lf P Γ H o g l).all λq=>q=(lv,H')):
  Di P (Post ds G w0 Z0 F a β H w o lv H') ((execOp a.eval o).run P w):=by
 obtain ⟨fn,S,_,_,_,hS,h⟩:=TC h;rw [hrun]
 have hval:=hΓ g S hS
 have hH:=λk b hb=>(hW.blk k b hb).2
 split at h
 ·rename_i hno
  obtain ⟨y,h1,h2⟩:=T.B8 h;simp only [T.all,B0] at h2;obtain ⟨rfl,rfl⟩:=h2
  have hok0:=noOwnL_ok _ hno hoka
  have hr0:RL β0 Z w l (vals).toList:=RL.mono (n:=0) (λ_ hk=>absurd hk A0) (λ_ h=>h) (λ_ _=>rfl) _ _ hok0 hargs
  refine (hval _ _ w Z y hW.Bc hW.Cb hok0 hr0 h1).mono λe w' ⟨hbw,v,he,hk,hr⟩=>⟨v,he,?_⟩
  refine ⟨_,β,hW.call hbw,hF.mono (At _) (λ_ _=>rfl) (λ_ h=> .inl h) λb hz=>EG hbw<|hW.Bc b hz,?_,okV.mono (NA _) _ hk,At _,λ_ _=>rfl,λk h1 h2=>A0,NI hbw⟩
  exact aN4
 ·have hok0:=aDG hoka (λx hx=>QS H hH 6 x hx)
  split at h
  ·obtain ⟨y,h1,h2⟩:=T.B8 h
   simp only [T.all,B0] at h2;obtain ⟨rfl,rfl⟩:=h2;obtain ⟨_,hg,h1⟩:=T.B8 h1
   have hG:=T.BY (K':=λ_=>True) (λ_ _=>trivial) hg
   obtain ⟨h1,h2⟩:=aEU h1
   have hr0:RL β0 (ZP Z β H λ_=>True) w (l.map<|C1 H 6) (vals).toList:=
    RL.mono (n:=0) (λ_ hk=>absurd hk A0) (λ_ h=>h) (λ_ _=>rfl) _ _ hok0 (TD (S:=λ_=>True) hargs hoka (λ_ _=>trivial) λx y hm hs hx hr=>MV hW (λ_ _ _ _ _ _=>trivial) 6 x y (Og hG x hm) hs hx hr)
   have hzo:∀b,ZP Z β H (λ_=>True) b->b<w.heap.size:=λb hz=>by
    exact aMj
   refine (hval _ _ w _ y hzo (hW.Cb.mono (λ_ h=> .inl h) λ_ _=>rfl) hok0 hr0 h1).mono λe w' ⟨hbw,v,he,hk,hr⟩=>⟨v,he,?_⟩
   refine ⟨Z,β,hW.same hbw,hF.mono (At _) (λ_ _=>rfl) (λ_ h=>h) λb hz=>EG hbw<|hW.Bc b hz,?_,okV.mono (NA _) _ hk,At _,λ_ _=>rfl,λk h1 h2=>A0,NI hbw⟩
   obtain ⟨x,hx⟩:=Zh.1 h2;rw [Ck hx hr];exact aLv hx
  ·split at h
   ·rename_i hcl
    obtain ⟨y,h1,h2⟩:=T.B8 h;simp only [T.all,B0] at h2;obtain ⟨rfl,rfl⟩:=h2;obtain ⟨_,hg,h1⟩:=T.B8 h1
    have hG:=T.BY (K':=λ_=>True) (λ_ _=>trivial) hg
    obtain ⟨c1,c2⟩:=Ss hcl
    have hP:=hW.pub<|reach H 64 (ownsL l) []
    have hr0:RL β0 (ZP Z β H λk=>k∈reach H 64 (ownsL l) []) w (l.map<|C1 H 6) (vals).toList:=
     RL.mono (n:=0) (λ_ hk=>absurd hk A0) (λ_ h=>h) (λ_ _=>rfl) _ _ hok0 (TD (S:=λk=>k∈reach H 64 (ownsL l) []) hargs hoka c1 λx y hm hs hx hr=>MV hW c2 6 x y (Og hG x hm) hs hx hr)
    refine (hval _ _ w _ y hP.Bc hP.Cb hok0 hr0 h1).mono λe w' ⟨hbw,v,he,hk,hr⟩=>⟨v,he,?_⟩
    refine ⟨_,β,hP.call hbw,?_,?_,okV.mono (NA _) _ hk,by rw [KK];exact At _,λ_ _=>rfl,λk h1 h2=>by rw [KK] at h2;omega,NI hbw⟩
    ·exact aMu
    ·exact aN4
   ·cases h
def aDu {f:aWS}{args:aWV}{ty:aW3}{o:aWw}(ho:o.op=.call {callee:=.value f,args,argTypes:=ty}) {g:aWF}{ys:aWz}(hy:a.eval f=.func (.func g) #[] ys) {fn:aWX}(hfn:P.funcs[g]? =ah fn) (hb:¬fn.body=aj) (hb3:¬fn.name= "runtime.NumGoroutine") (w:aWq):
  (execOp a.eval o).run P w=.ok (.enter g<|args.map a.eval++ys) w:=by
 unfold execOp;simp only [ho]
 simp [resolve,Deferred.ofValue,hy,invoke,callFunc,hfn,hb3,hb]
def aE6 {f:aWS}{args:aWV}{ty:aW3}{o:aWw}(ho:o.op=.call {callee:=.value f,args,argTypes:=ty}) {g:aWF}{ys:aWz}(hy:a.eval f=.func (.func g) ys #[]) {fn:aWX}(hfn:P.funcs[g]? =ah fn) (hb:¬fn.body=aj) (hb3:¬fn.name= "runtime.NumGoroutine") (w:aWq):
  (execOp a.eval o).run P w=.ok (.enter g<|ys++args.map a.eval) w:=by
 unfold execOp;simp only [ho]
 simp [resolve,Deferred.ofValue,hy,invoke,callFunc,hfn,hb3,hb]
def sB (G:B5) (F:aWf) (f:aWS) (args:aWV) (g:aWF) (l:aWf):Prop:=
 (∃cap,AL G F f=.fn g cap/\l=args.toList.map (λx=>norm<|AL G F x)++cap)\/(∃fs,AL G F f=.fb g fs/\l=fs++args.toList.map (λx=>norm<|AL G F x))\/(AL G F f=.v (.func (.func g) #[] #[])/\l=args.toList.map (λx=>norm<|AL G F x))
def aEe {f:aWS}{args:aWV}{ty:aW3}{o:aWw}(ho:o.op=.call {callee:=.value f,args,argTypes:=ty}) (hW:RW G w0 Z0 Z β H w) (hF:RF ds β Z w H.length F a) {g:aWF}{l:aWf}
  (hf:sB G F f args g l) {fn:aWX} (hfn:P.funcs[g]? =ah fn) (hb:¬fn.body=aj) (hb3:¬fn.name= "runtime.NumGoroutine"):
  ∃vals:aWz,(execOp a.eval o).run P w=.ok (.enter g vals) w/\RL β Z w l vals.toList/\AT H.length l:=by
 have hfr:=hF.eval hW.Cb f
 have ha:RL β Z w (args.toList.map λx=>norm<|AL G F x) (args.map a.eval).toList:=by
  exact aMJ
 have hk:AT H.length (args.toList.map λx=>norm<|AL G F x):=by
  exact aMD
 rcases hf with ⟨cap,hf,rfl⟩ |⟨fs,hf,rfl⟩ |⟨hf,rfl⟩
 ·rw [hf] at hfr
  obtain ⟨⟨ys,hy,hyr⟩,hcap⟩:=hfr;exact ⟨_,aDu ho hy hfn hb hb3 w,by rw [lV];exact RL.app ha hyr,AT.append hk hcap⟩
 ·rw [hf] at hfr
  obtain ⟨⟨ys,hy,hyr⟩,hcap⟩:=hfr;exact ⟨_,aE6 ho hy hfn hb hb3 w,by rw [lV];exact RL.app hyr ha,AT.append hcap hk⟩
 ·rw [hf] at hfr
  have hy:=hfr.1
  exact ⟨_,aDu ho hy hfn hb hb3 w,A8,hk⟩
def aEQ {r:aWS}{name:aXh}{args:aWV}{ty:aW3}{o:aWw}(ho:o.op=.call {callee:=.invoke r name,args,argTypes:=ty}) {t:aWu}{v rv:aWx}{g:aWF}(hy:a.eval r=.iface t v) (hm:J5 P (method (P.types.size+Made.depth) t v name)=ah (g,rv)) {fn:aWX}(hfn:P.funcs[g]? =ah fn) (hb:¬fn.body=aj) (hb3:¬fn.name= "runtime.NumGoroutine") (w:aWq):
  (execOp a.eval o).run P w=.ok (.enter g<|#[rv]++args.map a.eval) w:=by
 unfold execOp;simp only [ho]
 have hr:=cU w hm
 have h0:(#[Value.iface t v]++args.map a.eval)[0]? =ah (.iface t v):=A8
 have hx:(args.map a.eval).extract 0 args.size=args.map a.eval:=by
  grind
 simp [resolve,hy,invoke,callMethod,hr,callFunc,hfn,hb3,hb,h0,hx]
def aIm {x:LV}{name:aXh}{g:aWF}{rv z:aWx}(h:jI P x name=ah (g,rv)) (hr:R β Z w x z):∃t v,z=.iface t v/\J5 P (method (P.types.size+Made.depth) t v name)=ah (g,rv):=by
 unfold jI at h;split at h
 ·rename_i t v hp
  exact ⟨t,v,Ck hp hr,h⟩
 ·cases h
def aEf {f:aWS}{args:aWV}{ty:aW3}{o:aWw}{lv:LV}(ho:o.op=.call {callee:=.value f,args,argTypes:=ty}) (hΓ:∀g S,Γ g=ah S->Valid P G g S)
  (hW:RW G w0 Z0 Z β H w) (hF:RF ds β Z w (M H) F a) {g:aWF} {l:aWf} (hf:sB G F f args g l)
  {H':aWi} (h:(Lf P Γ H o g l).all λq=>q=(lv,H')):
  Di P (Post ds G w0 Z0 F a β H w o lv H') ((execOp a.eval o).run P w):=by
 obtain ⟨fn,S,h1,h2,h3,_⟩:=TC h;obtain ⟨vals,q1,q2,q3⟩:=aEe ho hW hF hf h1 h2 h3;exact aFD hΓ hW hF q1 q2 q3 h
def aee {r:aWS}{name:aXh}{args:aWV}{ty:aW3}{o:aWw}{lv:LV}(ho:o.op=.call {callee:=.invoke r name,args,argTypes:=ty}) (hΓ:∀g S,Γ g=ah S->Valid P G g S)
  (hW:RW G w0 Z0 Z β H w) (hF:RF ds β Z w (M H) F a) {g:aWF} {rv:aWx} (hf:jI P (AL G F r) name=ah (g,rv))
  {H':aWi} (h:(Lf P Γ H o g (.v rv::args.toList.map (λx=>norm<|AL G F x))).all λq=>q=(lv,H')):
  Di P (Post ds G w0 Z0 F a β H w o lv H') ((execOp a.eval o).run P w):=by
 obtain ⟨t,v,hy,hm⟩:=aIm hf (hF.eval hW.Cb r).1
 have hargs:RL β Z w (.v rv::args.toList.map (λx=>norm<|AL G F x)) (#[rv]++args.map a.eval).toList:=by
  rw [lV,N9];simp only [KG,EX,RL];refine ⟨rv,_,rfl,Ji,RL.CU AI λi x hx=>?_⟩
  rw [Df] at hx|-;cases hq:args.toList[i]? with
  |none=>simp [hq] at hx
  |some q=>simp [hq] at hx;subst hx;exact ⟨a.eval q,AI,Ow (hF.eval hW.Cb q).1⟩
 have hoka:AT (M H) (.v rv::args.toList.map (λx=>norm<|AL G F x)):=by
  refine ⟨ak,AT.CU λi x hx=>?_⟩
  cases hq:args.toList[i]? with
  |none=>simp [hq] at hx
  |some q=>simp [hq] at hx;subst hx;exact TE (hF.eval hW.Cb q).2
 obtain ⟨fn,S,h1,h2,h3,_⟩:=TC h;exact aFD hΓ hW hF (aEQ ho hy hm h1 h2 h3 w) hargs hoka h
end Go.Sx
end
