/- Helpers for ParkEvents. Conditions: none. -/
import Derived.Test.YtjjcgjkagokchaaGreatDoorRows
import Derived.WalkKit
import Derived.WalkSpells
import Derived.WalkLawsBesides
import Derived.Deep.QuietTactic
import Derived.BigQuiet
import Derived.Deep.RegionHeld3
import Derived.Deep.DrawnRows
import Derived.Deep.DeepCutAuto
import Derived.RangeFuncLeaves
import Derived.RangeFuncRecord
import Derived.OrdersIn
import Derived.LoopNIn
import Derived.Deep.Upon
import Derived.Laws.MakeOwn
import Derived.LoopN
import Derived.Test.YtjjcgjkagokchaaGreatDoorProg
import Derived.Stop.Asserts
import Derived.Lib.IfaceEq
import Derived.RowKitTokens
import Derived.OpenShut
import Derived.ChangeShapes
import Derived.WideShapes
import Derived.Carry
import Derived.ChangeOld
import Derived.FnData
import Derived.Test.YtjjcgjkagokchaaGreatDoorCards
import Derived.Test.YtjjcgjkagokchaaGreatDoorTie
import Derived.ProofKit
import Derived.Deep.DeepHandedRow
import Derived.Lib.LaidTab
set_option linter.defProp false
set_option linter.unusedVariables false
set_option linter.unusedSimpArgs false
noncomputable section
open List renaming length→M,length→aa,replicate→aq,range→au
open Bool renaming true→U,true→ae,false→X,false→af
open Go.Value renaming int→ag
open Option renaming some→ah,none→aj
open Go.IntKind renaming i64→J,i64→ai,u8→aw,u32→ax
open True renaming intro→ak
open Decidable renaming decide→an
open ByteArray renaming mk→av
open Go.Region renaming ready→ay,wanted→az
open Go.Instr renaming findNow→aA
namespace Go
structure q_(α:Type)
instance{α:Type}:CoeSort (q_ α) Type:=⟨λ_=>α⟩
def Y:q_ Int:=⟨⟩
def aB:q_ (List Int):=⟨⟩
def aC:q_ (Nat):=⟨⟩
def aF:q_ (List ByteArray):=⟨⟩
def aH:q_ (List Nat):=⟨⟩
def aI:q_ (List (List Int)):=⟨⟩
def aJ:q_ (Array Oper):=⟨⟩
def aL:q_ (Bool):=⟨⟩
def aO:q_ (World):=⟨⟩
def aR:q_ (Program):=⟨⟩
def aS:q_ (TypeId):=⟨⟩
def aT:q_ (List Value):=⟨⟩
def aU:q_ (Oper):=⟨⟩
def aV:q_ (Value):=⟨⟩
def aW:q_ (Array Value):=⟨⟩
def aY:q_ (Array Bool):=⟨⟩
def bc:q_ (Act):=⟨⟩
def bg:q_ (FuncId):=⟨⟩
def bh:q_ (List Bool):=⟨⟩
def bn:q_ (Option Nat):=⟨⟩
def bu:q_ (List TypeId):=⟨⟩
def bw:q_ (List Oper):=⟨⟩
def bz:q_ (ByteArray):=⟨⟩
def bB:q_ (Option Tmp):=⟨⟩
def bE:q_ (Code):=⟨⟩
def aL0:q_ (List Deferred):=⟨⟩
def aL2:q_ (Operand):=⟨⟩
def aL5:q_ (IntKind):=⟨⟩
def aL7:q_ (Option Value):=⟨⟩
def aL8:q_ (Func):=⟨⟩
def aL9:q_ (List MemPlace):=⟨⟩
def aMb:q_ (Array Operand):=⟨⟩
def aMd:q_ (Array (Nat×Value)):=⟨⟩
def aMe:q_ (Array Tmp):=⟨⟩
def aMh:q_ (List MapEntry):=⟨⟩
def aMi:q_ (List (String×DataW Unit)):=⟨⟩
def aMj:q_ (Array TypeId):=⟨⟩
def aMk:q_ (Option (Nat×Nat)):=⟨⟩
def aMl:q_ (Region.Mode):=⟨⟩
def aMm:q_ (Exit):=⟨⟩
def aMo:q_ (List (Int×(List Int))):=⟨⟩
def aMp:q_ (List ResultVar):=⟨⟩
def aMr:q_ (List Field):=⟨⟩
abbrev AU:=@decide_eq_true_eq
abbrev AS:=@Bool.and_eq_true
abbrev Bv:=@List.length_replicate
abbrev Ac:=@Option.some.injEq
abbrev AD:=@if_pos
abbrev AE:=@if_neg
abbrev Av:=@List.length_append
abbrev CJ:=@decide_eq_false_iff_not
abbrev Ai:=@Prod.mk.injEq
abbrev Bt:=@beq_eq_false_iff_ne
abbrev BR:=@List.length_set
abbrev Ak:=@List.mem_cons
abbrev BB:=@List.length_cons
abbrev C9:=@of_decide_eq_true
abbrev BG:=@List.length_nil
abbrev B7:=@List.all_eq_true
abbrev Ar:=@Nat.le_refl
abbrev B8:=@List.not_mem_nil
abbrev Bu:=@Int.toNat_of_nonneg
abbrev Bs:=@Int.toNat_natCast
abbrev C5:=@Bool.or_eq_true
abbrev BN:=@List.mem_append
abbrev EM:=@Bool.or_eq_false_iff
abbrev Ce:=@List.getElem?_eq_some_iff
abbrev Cs:=@List.getElem?_eq_getElem
abbrev Bw:=@Go.run_underlying
abbrev DC:=@List.getD_eq_getElem?_getD
abbrev Am:=@congrArg
abbrev DD:=@List.drop_eq_nil_of_le
abbrev CY:=@List.take_of_length_le
abbrev CZ:=@List.getElem?_map
abbrev Bq:=@List.drop_zero
abbrev C8:=@Bool.not_eq_true'
abbrev EK:=@List.getElem?_append_right
abbrev FI:=@List.getElem?_append_left
abbrev Fo:=@Int.tdiv_eq_ediv_of_nonneg
abbrev Fp:=@Array.getElem?_eq_some_iff
abbrev CI:=@Bool.false_or
abbrev Cb:=@beq_iff_eq
abbrev DV:=@List.length_drop
abbrev Cc:=@List.take_length
abbrev DQ:=@List.append_assoc
abbrev DX:=@List.getElem?_drop
abbrev B6:=@or_false
abbrev DE:=@Option.some.inj
abbrev Cq:=@decide_eq_true
abbrev EL:=@List.getElem_mem
abbrev FJ:=@Bool.false_eq_true
abbrev Dz:=@List.length_map
abbrev Ck:=@Nat.zero_add
abbrev Cr:=@Bool.true_and
abbrev D2:=@List.map_cons
abbrev GB:=@List.mem_iff_getElem
abbrev DP:=@bne_iff_ne
abbrev Fk:=@Bool.eq_false_iff
abbrev Dp:=@List.mem_map
abbrev BP:=@if_true
abbrev Fm:=@List.getElem?_set
abbrev GC:=@Bool.not_eq_false'
abbrev Gu:=@of_decide_eq_false
abbrev Gv:=@List.map_congr_left
abbrev J7:=@Go.World.putObj_heap_other
abbrev IM:=@List.mem_singleton
abbrev IN:=@List.length_take
abbrev FK:=@List.nil_append
abbrev FL:=@List.cons.injEq
abbrev GG:=@Bool.eq_iff_iff
abbrev Fq:=@decide_eq_false
abbrev K4:=@List.length_eq_zero_iff
abbrev Ek:=@List.map_map
abbrev FM:=@Nat.add_assoc
abbrev Fs:=@List.mem_filter
abbrev Gx:=@Option.map_some
abbrev IP:=@List.getElem?_take
abbrev E5:=@Nat.le_trans
abbrev pt:=@Array.toArray_toList
abbrev OD:=@Int.mul_le_mul_of_nonneg_right
abbrev VL:=@Function.comp_def
abbrev Mm:=@Int.fdiv_eq_ediv_of_nonneg
abbrev Mn:=@Int.not_le
abbrev JA:=@ge_iff_le
abbrev K5:=@Nat.mul_le_mul_right
abbrev E6:=@Nat.add_mul
abbrev GH:=@Int.mul_nonneg
abbrev HX:=@List.append_nil
abbrev Lb:=@Array.toList_map
abbrev IQ:=@beq_self_eq_true
abbrev Mo:=@Int.eq_ofNat_of_zero_le
abbrev GD:=@List.all_cons
abbrev LY:=@List.mem_of_mem_drop
abbrev QQ:=@Int.mul_le_mul_of_nonneg_left
abbrev O8:=@List.mem_or_eq_of_mem_set
abbrev IJ:=@List.foldl_cons
abbrev Mh:=@List.mem_of_mem_erase
abbrev DR:=@true_and
abbrev VI:=@List.take_succ_eq_append_getElem
abbrev Mj:=@List.mem_of_getElem?
abbrev IK:=@List.mem_range
abbrev J8:=@List.map_append
abbrev J9:=@List.nodup_cons
abbrev LZ:=@Option.bind_some
abbrev QR:=@List.drop_eq_getElem_cons
abbrev Mk:=@List.length_pos_iff
abbrev GF:=@Int.le_refl
abbrev E4:=@if_false
abbrev O9:=@List.mem_cons_of_mem
abbrev La:=@List.any_eq_true
abbrev OA:=@List.mem_of_mem_take
abbrev IL:=@List.map_nil
abbrev OB:=@Bool.or_eq_true_iff
abbrev VJ:=@Option.isNone_iff_eq_none
abbrev VK:=@List.getElem?_toArray
abbrev OC:=@List.mem_filterMap
abbrev Ml:=@List.filter_cons
abbrev O6:=@Int.natCast_nonneg
abbrev VH:=@Option.isSome_iff_exists
abbrev QN:=@List.erase_cons_tail
abbrev LX:=@Bool.and_false
abbrev O7:=@List.length_range
abbrev cC:=@Array.getD_eq_getD_getElem?
abbrev Gw:=@Go.mem_ready
abbrev QO:=@Int.ediv_le_self
abbrev Mg:=@Bool.false_and
abbrev QP:=@List.mem_replicate
abbrev VQ:=@List.contains_iff_mem
abbrev VR:=@List.getElem?_eq_none
abbrev cQ:=@List.isEmpty_eq_false_iff
abbrev OF:=@List.range_succ
abbrev OG:=@Int.ediv_nonneg
abbrev K6:=@Nat.zero_le
abbrev cR:=@Go.Result.andThen_ok
abbrev VS:=@List.getElem?_set_ne
abbrev Lg:=@Bool.or_true
abbrev Mp:=@Int.sub_zero
abbrev cS:=@List.getElem?_cons_succ
abbrev cU:=@List.getElem?_replicate
abbrev VT:=@Nat.lt_of_lt_of_le
abbrev aHV:=@Bool.and_eq_false_iff
abbrev qK:=@Array.getElem?_append_left
abbrev QX:=@Bool.and_assoc
abbrev VU:=@List.isEmpty_iff
abbrev agl:=@Array.mem_append
abbrev VW:=@List.ext_getElem
abbrev VX:=@Nat.lt_succ_self
abbrev OH:=@Int.le_trans
abbrev qL:=@Array.getElem?_eq_getElem
abbrev agm:=@Array.mapM_eq_mapM_toList
abbrev qM:=@List.pairwise_iff_getElem
abbrev qN:=@Decidable.byContradiction
abbrev cV:=@List.replicate_succ
abbrev aHT:=@List.getElem?_take_of_lt
abbrev QT:=@List.any_cons
abbrev VO:=@Go.Oper.apart_spec
abbrev cD:=@List.pairwise_cons
abbrev cE:=@List.filter_append
abbrev cF:=@List.length_modify
abbrev cG:=@List.getElem_range
abbrev qD:=@Classical.axiomOfChoice
abbrev OE:=@Nat.one_mul
abbrev QU:=@Go.callsIn_wide
abbrev cH:=@Go.Sem.run_bind
abbrev cI:=@Bool.not_eq_false
abbrev qE:=@List.Perm.append_right
abbrev cJ:=@List.flatMap_cons
abbrev qF:=@List.singleton_append
abbrev qG:=@List.length_filter_le
abbrev qH:=@Go.run_typeAssert_lacksB
abbrev qI:=@Int.mul_tdiv_add_tmod
abbrev cK:=@Option.getD_some
abbrev cM:=@List.nodup_range
abbrev cN:=@List.cons_append
abbrev Lf:=@and_true
abbrev QW:=@List.map_id
abbrev aHU:=@List.drop_append_of_le_length
abbrev qJ:=@List.replicate_succ'
abbrev cP:=@List.foldr_cons
abbrev aHS:=@List.replicate_eq_append_iff
abbrev pw:=@Array.length_toList
abbrev pz:=@Array.toList_append
abbrev q9:=@List.getElem?_range
abbrev qB:=@Nat.add_comm
abbrev VM:=@Nat.add_zero
abbrev qC:=@Go.Sem.run_pure
abbrev QS:=@Nat.not_lt
abbrev Lc:=@Ne.symm
abbrev VN:=@Go.getD_set_ne
abbrev qV:=@Go.run_storeCells_at
abbrev qW:=@List.nodup_append
abbrev qX:=@List.filter_congr
abbrev qY:=@List.Pairwise.map
abbrev qZ:=@List.reverse_perm
abbrev Ve:=@Int.one_mul
abbrev qa:=@Decidable.not_not
abbrev cj:=@Bool.and_true
abbrev agn:=@Bool.not_true
abbrev agp:=@List.mem_toArray
abbrev qb:=@List.getElem_map
abbrev ck:=@Nat.lt_or_ge
abbrev cq:=@Nat.le_of_eq
abbrev cr:=@Nat.zero_mul
abbrev ct:=@Go.execOp_congr
abbrev cu:=@List.any_nil
abbrev OM:=@eq_comm
variable {p:Prop}
def Vf(h:p:=by
 have c1:s.i<s.n:=AQ
 rw [AG (x:=s.i+1)];exact ⟨⟨AP,AP,h2,h3,hg,(by first|exact l1|(simp only [BR];exact l1)),l2,(by first|exact l3|(simp only [BR];exact l3)),(by first|exact l4|(simp only [BR];exact l4)),(by first|exact l5|(simp only [BR];exact l5))⟩,by simp only [WW];omega⟩):=h
def Ms(h:p:=by
 intro s hI;refine ⟨λc1=>⟨?_,?_,λ_=>trivial,λ_=>trivial⟩,λ_=>trivial⟩
 all_goals ((obtain ⟨⟨h0,h1⟩,h2,h3,h4⟩:=hI;have:=Am M h2;simp only [AU] at c1;omega))):=h
def Vg(h:p:=by
 intro s hI;refine ⟨λc1=>⟨?_,?_,?_,ak⟩,λc1=>⟨A9,ak⟩⟩
 all_goals ((obtain ⟨h0,h1,h2,h3,h4⟩:=hI;(try simp only [AU] at c1);first|omega|(refine ⟨A0,?_,?_⟩<;>simp only [BB,BG]<;>omega) |(simp only [Av,BB,BG];omega) |exact ⟨rfl,AH⟩ |exact ⟨rfl,rfl⟩))):=h
def aHd(h:p:=by
 have c1:s.k<s.m:=AQ
 have c2:=NF hI c2
 have hp:s.levels.getD (gi s.l s.k).toNat 0=s.level-1/\s.level<=Dg s.Ao (gi s.l s.k) (gi s.most<|gi s.l s.k):=by
  refine ⟨c2,?_⟩
  have h6:=hI.2.2.1
  simp only [CJ] at c3;rw [<-h6] at c3;unfold Dg;omega
 have hE:=RB hI c1 c2
 rcases WX _ hE with ⟨q1,q2⟩ |⟨q1,q2,q3⟩
 ·rw [q1] at c4
  cases c4
 ·rw [q2] at c5
  cases c5):=h
def aHe(h:p:=by
 simp only [e1,e2,hst,q3]
 repeat (refine ⟨CA,?_⟩)
 refine ⟨⟨hA,rfl,rfl⟩,rfl,rfl,rfl,rfl,rfl,?_⟩
 repeat (refine ⟨CA,?_⟩)
 refine ⟨λc1=>?_,λc1=>?_⟩
 ·have c1:s.p.dE≠0:=DP.1 c1
  repeat (refine ⟨CA,?_⟩)
  show _=_
  unfold X9;rw [show PK.AK s.p={s.p with ls:=G2 s.p.ls s.p.tk} by unfold PK.AK;rw [AE hu,AD c1],hxs]
 ·have c1:¬s.p.dE≠0:=λh=>aKX
  repeat (refine ⟨CA,?_⟩)
  refine ⟨⟨hB,rfl,rfl⟩,?_⟩
  repeat (refine ⟨CA,?_⟩)
  show _=_
  unfold X9;rw [show PK.AK s.p=_ by unfold PK.AK;rw [AE hu,AE c1],aeS]
  unfold Hx PK.Gf;rw [hxs]):=h
def IT(h:p:=by
 by_cases hji:(j:Y)<s.i
 ·exact h4 j hji
 ·have:(j:Y)=s.i:=A8
  rw [this];exact hg):=h
def QZ(h:p:=by
 intro s hI;refine ⟨λc1=>⟨?_,?_,λ_=>trivial,λ_=>trivial⟩,λ_=>trivial⟩
 all_goals ((obtain ⟨⟨h0,h1⟩,h2,h4⟩:=hI;have:=Am M h2;simp only [AU] at c1;omega))):=h
def Mt(h:p:=by
 intro s hI;refine ⟨λc1=>⟨?_,λ_=>trivial,λ_=>trivial⟩,λ_=>trivial⟩
 ·(obtain ⟨h0,h1,h2,h3,h4⟩:=hI;simp at c1;omega)):=h
def HY(h:p:=by
 rintro s ⟨h0,h1,h2,h3⟩
 exact ⟨A0,A0,h2,h3,λj hj=>A0⟩):=h
def qQ(h:p:=by
 refine ⟨hW.mask d1 d2 d3,λb hb=>?_⟩
 rcases hb with hb|⟨k,bk,hk1,hk2,hk3,rfl⟩
 ·exact d1.block b (hW.zlt b hb)<|hW.lvB_not hb
 ·have hkt:k∉tr:=by simpa using hk3
  rw [maskGo_get] at hk1;cases hH:H2[k]? with
  |none=>simp [hH] at hk1
  |some b0=>
   simp only [hH,Gx,Ac,Ck] at hk1;rw [AE<|by simpa using hkt] at hk1
   subst hk1;exact d1.block _ (hW.lt hH hk2)<|hW.lvB_other hH hk2 hkt):=h
def qR(h:p:=by
 refine ⟨rfl,?_⟩;refine adY (by rw [Hb];exact h4) λj j0 j1=>?_
 rw [Hb] at j1;rw [OV j0 j1,h5 j j0 A0,AD (show j<s.i by omega)]):=h
def Ft(h:p:=by
 rintro s ⟨h0,h1⟩
 exact ⟨⟨A0,A0⟩,h1⟩):=h
def cY(h:p:=by
 have hG':(gseq (guardX H d) l).all (λ_=>True):=aKp
 clear hG
 simp only [toX,R,okV,owns] at*;obtain ⟨ys,h1,h2⟩:=h;exact ⟨ys,h1,RL_map h2 hk hS λx y hm hx hk' hr=>toX_R hW clo d x y (gseq_all hG' _ hm) hx hk' hr⟩):=h
def Mq(h:p:=by
 have c:=DP.1 c
 show I2 _=_
 rw [(OW (by rw [s1];exact c)).1,(OW (by rw [s1];exact c)).2,s1]
 rfl):=h
def aHZ(h:p:=by
 have hrun:(execOp a.eval o).run P w=.ok .skip w':=Ha
 rw [hrun,<-h2];refine ⟨Z,β,e2,?_,?_,ak,A0,λ_ _=>rfl,λk k1 k2=>A0,by simp only [touchB,wrt,ho];exact e6⟩
 ·rw [e3];exact hF.mono (Ar _) (λ_ _=>rfl) (λ_ h=>h) e4
 ·simp only [R]):=h
def cZ(h:p:=by
 simp only [Cb,Bt,ne_eq,C5,EM,AU,CJ,JA,Mn] at*;refine fin _ _ ?_ ?_<;>(clear fin w0 w3a w3b w4a w4b;omega)):=h
def Mr(h:p:=by
 have c1:s.n<=s.i:=AQ
 exact .inl ⟨rfl,λj hj=>h4 j A0⟩):=h
def OJ(h:p:=by
 rintro s ⟨h0,h2,h3,h4,h5,h6⟩
 exact ⟨A0,h2,h3,h4,λj j0 j1=>A8,h6⟩):=h
def qS(h:p:=by
 intro s hI;refine ⟨λc1=>⟨?_,?_,?_,?_,ak⟩,λc1=>⟨A9,ak⟩⟩
 all_goals ((obtain ⟨⟨h0,h1⟩,h2,h3,h4,h5,h6⟩:=hI;(try simp only [AU] at c1);first|omega|exact ⟨rfl,AH⟩ |(omega)))):=h
def qT(h:p:=by
 have e1:=λw=>run_sizeOf hsz w
 have e2:=λw=>run_zero hz w
 have n1:¬(len*m>2^24):=A0
 have n2:¬(len*m=0):=A0
 simp only [Instr.buildSlice,cH,Bw hu,cR,e1,AE n1,AE n2,e2,qC,f1,newRow];rfl):=h
def aHa(h:p:=by
 have hrun:(execOp a.eval o).run P w=.ok (.value<|.map<|ah w.heap.size) (w.alloc<|.map #[] 0):=by simp [execOp,ho,Instr.makeMap]
 rw [hrun,<-h1,<-h2];refine ⟨Z,β',b3,hF.mono AH b1 (λ_ h=>h) λb hz=>below_block b4<|hW.zlt b hz,?_,?_,AH,b1,λk k1 k2=>?_,near_of_below b4⟩
 ·simp only [R,b2]
 ·simp [okV]
 ·have:k=M H:=by simp at k2;omega
  rw [this,b2];exact .inl<|Ar _):=h
def cb(h:p:=by
 by_cases e:j=s.i
 ·subst e
  rw [AD rfl,AD (show s.i<s.i+1 by omega)]
  rfl
 ·rw [AE e,h5 j j0 j1]
  by_cases q:j<s.i
  ·omega
  ·omega):=h
def IS(h:p:=by exact upF_sound us F H Z β F1 H1 hW hF h):=h
def cd(h:p:=by
 simp only [Cb,Bt,ne_eq,C5,EM,AU,CJ,JA,Mn] at*;refine fin _ _ ?_ ?_<;>(clear fin w1a w1b w1c w3a w3b w4a w4b;omega)):=h
def aHb(h:p:=by
 simp only [Cb,Bt,ne_eq,C5,EM,AU,CJ,JA,Mn] at*;refine fin _ _ ?_ ?_<;>(clear fin w0 w1a w1b w1c w4a w4b;omega)):=h
def aHc(h:p:=by
 simp only [Cb,Bt,ne_eq,C5,EM,AU,CJ,JA,Mn] at*;refine fin _ _ ?_ ?_<;>(clear fin w0 w1a w1b w1c w3a w3b;omega)):=h
def OK(h:p:=by exact ⟨False,.junk,deadBk,λH K=>by simp [T.all]⟩):=h
def Gy(h:p:=by
 exfalso;rw [h2] at c2
 simp at c2):=h
def K7(h:p:=by obtain ⟨h1,h2⟩:=same h;exact gen h1 h2):=h
def QY(h:p:=by
 simp only [renV,R] at*;rw [(h.at<|ho k GI).1];exact hr):=h
def Vb(h:p:=by
 split at h
 ·simp only [T.all,Ai] at h
  rw [<-h.2];exact EvL.app _ _
 ·cases h):=h
def cf(h:p:=by rw [evalL_setF<|hl x D3]):=h
def qU(h:p:=by
 intro s hI;refine ⟨λc1=>⟨?_,λ_=>trivial,λ_=>trivial⟩,λ_=>trivial⟩
 ·(obtain ⟨⟨h0,h1⟩,h2,h3,h4⟩:=hI;simp only [AU] at c1;omega)):=h
def cg(h:p:=by
 simp only [renV,R,owns,okV] at*;obtain ⟨ys,h1,h2⟩:=hr;exact ⟨ys,h1,ren_RL h l _ ho hok h2⟩):=h
def Vc(h:p:=by
 rename_i ho;rcases h with h|h
 ·simp [isAl,ho] at h
 ·simp [isMk,ho] at h):=h
def VY(h:p:=by
 rename_i ho;rcases h with h|h
 ·simp [isAm,ho] at h
 ·simp [isMk,ho] at h):=h
def OI(h:p:=by
 have c1:s.n<=s.i:=A8
 exact ⟨rfl,A0⟩):=h
def aHW(h:p:=by
 have hh':w'.heap[r]? =ah (.map es clock):=aLH
 have hget:(getObj r).run P w'=.ok (.map es clock) w':=dW
 have hz0:=λw=>run_zero hz w
 simp [Instr.lookup,Bw hu,hy,hget,checkKey_int hku,Instr.findKey,Bw hku,hzq,q1,hz0]):=h
def qP(h:p:=by
 split at h
 ·split at h
  ·rename_i hg
   rw [AD hg];rw [T.all_bind] at h|-;exact T.all_mono (λq hq=>hh _ _ hq) h
  ·cases h
 ·cases h):=h
def VZ(h:p:=by exact val h2 (v:=z) Ha e2 e3):=h
def Va(h:p:=by
 rintro s ⟨h0,h1,h2,h3⟩
 exact ⟨A0,A0,h1,h2,A0⟩):=h
def cW(h:p:=by
 simp only [R,okV] at*;obtain ⟨ys,h1,h2⟩:=h;exact ⟨ys,h1,RL.mono hβ hZ hw l _ hk h2⟩):=h
def aHX(h:p:=by
 rw [hrun,<-h1,<-h2];refine ⟨Z,β',b3,hF.mono AH b1 (λ_ h=>h) b4,?_,?_,AH,b1,λk k1 k2=>?_,near_of_below<|(Below.refl _ _).alloc (Ar _) _⟩
 ·simp only [R,b2]
 ·simp [okV]
 ·have:k=M H:=by simp at k2;omega
  rw [this,b2];exact .inl<|Ar _):=h
def aHY(h:p:=by
 split at h
 ·simp only [owns,IM] at hk
  split at h
  ·rename_i hb
   split at h
   ·grind
   ·cases h
  ·cases h
 ·simp [owns] at hk
 ·simp only [owns,IM] at hk
  subst hk;split at h
  ·rename_i hb;exact ⟨⟨_,hb,hr.1⟩,.inr ⟨_,_,_,rfl⟩⟩
  ·cases h
 ·cases h):=h
def cX(h:p:=by
 simp only [R,owns,okV] at*;obtain ⟨ys,h1,h2⟩:=h;exact ⟨ys,h1,RL.cong l _ hj hk h2⟩):=h
def aI4(h:p:=by
 unfold S0
 (rw [AG,h5] at c2;unfold koV;revert c2;generalize inB (Jl s.l s.i).2.1 _ _=a;generalize inB (Jl s.l s.i).2.2.1 _ _=b;generalize inB (Jl s.l s.i).2.2.2 _ _=c;generalize List.contains (α:=Int) _ _=d;cases a<;>cases b<;>cases c<;>cases d<;>simp)):=h
def cy(h:p:=by
 refine ⟨c2,?_⟩
 have h6:=hI.2.2.1
 simp only [CJ] at c3;rw [<-h6] at c3;unfold Dg;omega):=h
def aI5(h:p:=by
 have:=e1 w' λb hb=>(hD w' hw').2 b (by
  rcases hb with hb|⟨k,e4,e5⟩
  ·exact .inl hb
  ·obtain ⟨bk,l1,l2⟩:=hlv k e4
   refine .inr ⟨k,bk,l1,l2,?_,e5⟩;unfold apartL at hap;simp only [ho,e4] at hap
   simpa using hap)
 simp [execOp,ho,this]):=h
def qh(h:p:=by
 have:=pux_setF (P:=P) (G:=G) (Γ:=λ_=>aj) (F:=F) (y:=y) h
 unfold pux at this;unfold hpx;simp only [ho] at this|-;exact this):=h
def Vk(h:p:=by
 rintro s ⟨h0,h1,h2,h3⟩
 exact ⟨A0,A0,h1,h2,h3⟩):=h
def aI6(h:p:=by
 rw [show (s.i+1).toNat=s.i.toNat+1 by omega,El,<-h5]
 have e1:s.o.getD s.i.toNat (Ty.dflt AR)=Aa s.o (s.i.toNat:Y):=by
  rw [DC,Cs A0];rw [show Aa s.o (s.i.toNat:Y)=s.o[s.i.toNat]' A0 from Oz A0];rfl
 rw [e1];rfl):=h
def K8(h:p:=by rename_i ho;simp [isSp,ho] at hsp):=h
def aI7(h:p:=by
 have hh':w'.heap[r]? =ah (.map es clock):=aLH
 have hget:(getObj r).run P w'=.ok (.map es clock) w':=dW
 simp [Instr.lookup,Bw hu,hy,hget,checkKey_int hku,Instr.findKey,Bw hku,hzq,q1]):=h
def qi(h:p:=by
 have:=RL_v (β:=β) (Z:=Z) (w:=w)<|(au<|len*m).map λi=>z.cells[i%z.cells.size]!
 simpa [Ek,VL] using this):=h
def aI8(h:p:=by
 simp only [R];refine ⟨_,rfl,?_⟩;simp only [Lb];refine RL.of_get AH λi x hx=>?_
 rw [CZ] at hx|-;cases hq:first.toList[i]? with
 |none=>simp [hq] at hx
 |some q=>simp [hq] at hx;subst hx;exact ⟨a.eval q,AH,(ev q).1⟩):=h
def aI9(h:p:=by
 obtain ⟨_,⟨h2,h3,h4,h5⟩,_⟩:=hI
 have c2:((s.levels.getD (gi s.l s.k).toNat 0) !=(AA<|s.level-1))=true:=c2
 rw [AG (x:=s.level-1)] at c2
 have c2:¬s.levels.getD (gi s.l s.k).toNat 0=s.level-1:=D4
 exact c2 h.1):=h
def aIA(h:p:=by
 simp only [R];refine ⟨_,rfl,?_⟩;simp only [Lb];refine RL.of_get AH λi x hx=>?_
 rw [CZ] at hx|-;cases hq:cap.toList[i]? with
 |none=>simp [hq] at hx
 |some q=>simp [hq] at hx;subst hx;exact ⟨a.eval q,AH,(ev q).1⟩):=h
def cz(h:p:=by
 simp only [R] at*;obtain ⟨ys,h1,h2⟩:=hh;exact ⟨ys,h1,RL.shut h o' l _ h2⟩):=h
def aIB(h:p:=by
 rw [AD (show Di (BA s.p.ca s.i) (Bz s.p.mi s.i) (AF s.p.gs s.i).2.2.1 (BH (AF s.p.gs s.i)<|BI s.p.st s.i)>BH (AF s.p.gs s.i) (BI s.p.st s.i) from C9 c5)];rw [show C6 s.p.gs s.p.st s.i 6 2 0=_ from AD<|eq_of_beq c6];rfl):=h
def qj(h:p:=by
 simp only [encL] at hx;cases j with
 |zero=>simp at hx;subst hx;exact ⟨_,h,H0⟩
 |succ j=>simp at hx):=h
def aIC(h:p:=by
 rw [AD (show Di (BA s.p.ca s.i) (Bz s.p.mi s.i) (AF s.p.gs s.i).2.2.1 (BH (AF s.p.gs s.i)<|BI s.p.st s.i)>BH (AF s.p.gs s.i) (BI s.p.st s.i) from C9 c5)];rw [show C6 s.p.gs s.p.st s.i 6 2 0=_ from AE<|Bt.1 c6];rfl):=h
def aID(h:p:=by
 rename_i f l hl;simp only [T.all,Ai] at h;rw [hl] at hx
 have hx1:=hx.1
 simp only [R] at hx1;obtain ⟨ys,e1,_⟩:=hx1;refine val h.2.symm (v:=a.eval x) Ha ?_ ?_<;>rw [<-h.1]
 ·exact hx.1
 ·exact hx.2):=h
def aIE(h:p:=by
 rename_i f l hl;simp only [T.all,Ai] at h;rw [hl] at hx
 have hx1:=hx.1
 simp only [R] at hx1;obtain ⟨ys,e1,_⟩:=hx1;refine val (v:=a.eval x) (λw' _=>Ha) ?_ ?_<;>rw [<-h.1]
 ·exact hx.1
 ·exact hx.2):=h
def aIF(h:p:=by
 obtain ⟨a,cap,h1,h2,h3⟩:=h;refine ⟨a,cap,by rw [<-h1];exact hb 0 Vm,h2,λhn=>?_⟩
 obtain ⟨b',o',h4,h5,h6⟩:=h3 hn;exact ⟨b',o',h4,hZ _ h5,λi d hd=>RD.mono hZ hw e d b' _ h5<|h6 i d hd⟩):=h
def aIG(h:p:=by
 rw [hrun];refine ⟨Z,β',e4,hF.mono A0 e3 (λ_ h=>h) λb hz=>below_block e2<|hW.zlt b hz,e5,e6,A0,e3,λk k1 k2=>?_,near_of_below e2⟩
 have:k=M H:=A0
 rw [this,e8];exact .inl<|Ar _):=h
def aIH(h:p:=by
 rename_i t m i x ho;obtain ⟨H1,h1,h2⟩:=T.bind_all h;simp only [T.all,Ai] at h2;obtain ⟨h2,h3⟩:=h2;subst h3;obtain ⟨w',e1,e2,e3,e4,e6⟩:=insL_sound hW h1 (ev m).1 (ev i).1 (ev x).1 (ev x).2;exact aHZ):=h
def qk(h:p:=by
 obtain ⟨_,⟨cs,f2,f3⟩,_⟩:=blk_cl hW hb hcl;refine ⟨cs,f2,?_⟩
 have:=RL.length f3
 simpa using this):=h
def aII(h:p:=by
 refine RL.of_get AH λi x hx=>?_
 rw [Lb,CZ];cases hq:args.toList[i]? with
 |none=>simp [hq] at hx
 |some q=>simp [hq] at hx;subst hx;exact ⟨a.eval q,AH,norm_R (hF.eval hW.glob q).1⟩):=h
def ql(h:p:=by
 show Iv _ _ _=Iv _ _ _
 rw [GG];unfold Iv;simp only [Cb,Bt,ne_eq] at*;simp only [AS,C5,AU];omega):=h
def dA(h:p:=by exact .inl ⟨rfl,λj hj=>h4 j A0⟩):=h
def aIJ(h:p:=by
 (try simp only [T.all] at hu)
 (try simp only [T.all])
 rw [step _ _ _ _ _ hy g2,e1,e2];refine ⟨h.1,T.all_mono (λq hq=>?_) hu⟩
 (try simp only at hq)
 (try simp only)
 rw [setF_comm a2];exact hq):=h
def aHk(h:p:=by
 refine ⟨rfl,rfl,?_,λx hx=>?_,htk,hR.fl,?_⟩
 ·have:=yv (p:=s.p);show (M s.p.dL:Y)<=16;omega
 ·have:=aGe (p:=s.p) x hx;omega
 ·have:=hR.lk;show (M s.p.lk:Y)<=17000000+0;omega):=h
def aHl(h:p:=by
 refine okL.of_get λi x hx=>?_
 rw [CZ] at hx;cases hq:(vs.map (·.2))[i]? with
 |none=>simp [hq] at hx
 |some q=>simp [hq] at hx;subst hx;exact toX_ok H hH 6 _<|okL.get i q hoka hq):=h
def aHm(h:p:=by
 simp only [T.all,Ai] at h;rw [hl] at hx
 have hx1:=hx.1
 simp only [R] at hx1;refine val h.2.symm (v:=a.eval x) (by simp [execOp,ho,hx1]) ?_ ?_<;>rw [<-h.1]
 ·exact hx.1
 ·exact hx.2):=h
def Mu(h:p:=by
 simp [BJ,Ay,Br,hv,EW.ev,h]
 grind):=h
def aHn(h:p:=by
 simp only [T.all,Ai] at h;rw [hl] at hx
 have hx1:=hx.1
 simp only [R] at hx1;refine val (v:=a.eval x) (λw' _=>by simp [execOp,ho,hx1]) ?_ ?_<;>rw [<-h.1]
 ·exact hx.1
 ·exact hx.2):=h
def qf(h:p:=by
 rw [hg] at hq;simp only [FJ,E4] at hq;rw [hq];exact .inr ⟨rfl,rfl,rfl,rfl,rfl,rfl,rfl⟩):=h
def aHo(h:p:=by
 intro s hI;refine ⟨λc1=>⟨?_,λc2=>⟨A9,ak⟩,λc2=>⟨A9,ak⟩⟩,λc1=>⟨A9,ak⟩⟩
 ·(obtain ⟨h0,h1,h2,h3⟩:=hI;simp only [AU] at c1;omega)):=h
def aHp(h:p:=by
 rw [Hj h0 A0 j0,aeu h0 A0 j0]
 by_cases e:j=s.i
 ·subst e
  rw [AD rfl,AD rfl,hx',hy'];exact ⟨rfl,rfl⟩
 ·rw [AE e,AE e]
  exact hA j j0 A0):=h
def aHq(h:p:=by
 rw [AE (show ¬Di (BA s.p.ca s.i) (Bz s.p.mi s.i) (AF s.p.gs s.i).2.2.1 (BH (AF s.p.gs s.i)<|BI s.p.st s.i)>BH (AF s.p.gs s.i) (BI s.p.st s.i) from Gu c5)];rfl):=h
def aHr(h:p:=by
 refine ⟨hc.rw,?_,hc.near,hc.len,hc.old,hc.new,hc.shp⟩;exact hF1'.mono (Ar _) (λ_ _=>rfl) (λ_ h=>h) λb hz=>hc.near.block b (hW.zlt b hz)<|hW.lvB_not hz):=h
def cw(h:p:=by
 rintro s ⟨h0,h1,h2⟩
 exact ⟨A0,A0,h1,h2⟩):=h
def aHs(h:p:=by (have hx:=NH s hI AQ;obtain ⟨w1,w2⟩:=Xn hI<|NF hI c2;have hh:=Fu.1<|hI.2.2.2.1.has _ hx.1;have hb:=hI.2.1;(first|rw [w2] |rw [w1]);omega)):=h
def aHt(h:p:=by
 simp only [okV];refine okL.of_get λi x hx=>?_
 rw [CZ] at hx;cases hq:first.toList[i]? with
 |none=>simp [hq] at hx
 |some q=>simp [hq] at hx;subst hx;exact (ev q).2):=h
def aHu(h:p:=by
 have c1:s.i<s.k:=AQ
 refine .inr ⟨rfl,rfl,s.i.toNat,AP,?_⟩
 have hg:RU s s.i=false:=aKi
 exact hg):=h
def aHv(h:p:=by
 simp only [okV];refine okL.of_get λi x hx=>?_
 rw [CZ] at hx;cases hq:cap.toList[i]? with
 |none=>simp [hq] at hx
 |some q=>simp [hq] at hx;subst hx;exact (ev q).2):=h
def Vi(h:p:=by
 rw [q3,hn,hl,DD A0,hE.1] at hk
 grind):=h
def aHw(h:p:=by
 rename_i t m i x ho;unfold opx at h;simp only [ho] at h;obtain ⟨H1,h1,h2⟩:=T.bind_all h;simp only [T.all,Ai] at h2;obtain ⟨_,rfl⟩:=h2;exact insL_ev h1):=h
def aHx(h:p:=by
 refine okL.of_get λi x hx=>?_
 cases hq:args.toList[i]? with
 |none=>simp [hq] at hx
 |some q=>simp [hq] at hx;subst hx;exact norm_ok (hF.eval hW.glob q).2):=h
def aHy(h:p:=by
 split at h
 ·split at h
  ·split at h
   ·simp only at h
    split at h
    ·rename_i hb;exact ⟨_,hb,ak⟩
    ·cases h
   ·cases h
  ·cases h
 ·cases h):=h
def cx(h:p:=by exact val (v:=z) (λw' _=>Ha) e2 e3):=h
def aHz(h:p:=by
 have c1:s.t11<3:=AQ
 rw [AG (x:=s.t11+1)];exact ⟨⟨ht,⟨AP,AP⟩,h1,h2⟩,by simp only [gu];omega⟩):=h
def aI0(h:p:=by
 rename_i x ho;simp only [T.all,Ai] at h;refine val h.2.symm (v:=a.eval x) (by simp [execOp,ho]) ?_ ?_<;>rw [<-h.1]
 ·exact (ev x).1
 ·exact (ev x).2):=h
def aI1(h:p:=by
 rename_i x ho;simp only [T.all,Ai] at h;refine val (v:=a.eval x) (λw' _=>by simp [execOp,ho]) ?_ ?_<;>rw [<-h.1]
 ·exact (ev x).1
 ·exact (ev x).2):=h
def Vj(h:p:=by
 show (w.heap.push _)[w.heap.size]? =_
 simp):=h
def aI2(h:p:=by
 intro s hI;refine ⟨λc1=>⟨?_,?_,λ_=>trivial,λ_=>trivial⟩,λ_=>trivial⟩
 all_goals ((obtain ⟨h0,h1,h2,h3,h4⟩:=hI;simp at c1;omega))):=h
def aI3(h:p:=by rw [evalN_setF<|evalL_setF<|hl q.2 aJi]):=h
def Cl(h:p:=by simp only [R]):=h
def aHf(h:p:=by
 split
 ·exact ⟨go _<|keeps_set h hdd _,pass _<|keeps_set h hdd _⟩
 ·exact ⟨pass _<|keeps_set h hdd _,go _<|keeps_set h hdd _⟩):=h
def qd(h:p:=by
 simp only [Ty.n] at hj
 have:j=0:=A0
 subst this;exact ⟨_,h,rfl⟩):=h
def aHg(h:p:=by
 unfold eqArm;split
 ·rename_i op t x z _ ho
  simp only [e x D3,e z D3]
 ·rfl):=h
def qe(h:p:=by
 unfold Iv;simp only [Cb,Bt,ne_eq] at*;simp only [aHV,EM,CJ];omega):=h
def aHh(h:p:=by
 refine .inr ⟨q1,q2,?_⟩;rw [Fk];intro hx
 have:=(N4 (d:=(0:Y))).2 hx j A0
 exact Bool.noConfusion<|this.symm.trans q4):=h
def Vh(h:p:=by
 have c1:s.k<=s.i:=A8
 exact qR):=h
def aHi(h:p:=by
 rw [e8.block k A0 λhm=>?_]
 ·exact hc.near.block k hk hn
 ·rcases hc.touch hst hm with h|h
  ·omega
  ·exact hn h):=h
def aHj(h:p:=by
 rename_i x ho;unfold opx at hs;simp only [ho,T.all,Ai] at hs;exact other _ hs.1.symm hs.2.symm λj hj=>evalL_owns hj):=h
def cv(h:p:=by (have hx:=NH s hI AQ;omega)):=h
def aIl(h:p:=by
 rw [pubGo_length];exact hF.mono (Ar _) (λ_ _=>rfl) (λ_ h=> .inl<|.inl h) λb hz=>below_block hbw<|hW.zlt b hz):=h
def dC(h:p:=by
 rintro s ⟨h0,h1⟩
 exact ⟨A0,h1⟩):=h
def qt(h:p:=by
 obtain ⟨y,zs,rfl,rfl,_⟩:=h;simp only [RD];exact hc 0 _ rfl):=h
def aIm(h:p:=by
 have:(j:Y)=s.i:=dT
 rw [this];exact hg):=h
def qu(h:p:=by
 rw [q1,q2,Lu j q3 q4];exact ⟨λ_=>rfl,λc=>CP⟩):=h
def aIn(h:p:=by
 refine allR_ite (λc5=>?_) λc5=>?_
 ·refine allR_ite (λc6=>?_) (λc6=>?_)
  ·exact Vf
  ·exact Vf
 ·exact Vf):=h
def aIo(h:p:=by
 have:By (r::rs) (x-i)=By rs (x-(i+1)):=by
  unfold By;rw [show (x-i).toNat=(x-(i+1)).toNat+1 by omega]
  simp
 grind):=h
def aIp(h:p:=by
 split
 ·rename_i cs _
  exact ⟨True,.own k 0,⟨cs,t,.cl,X⟩,λH K=>aLP⟩
 ·exact OK):=h
def aIq(h:p:=by
 go_enter func227,Tryz.ntmps227
 go_wp2
 refine wp_loop_rounds 1 ?_;rw [rounds_succ]
 go_wp2
 go_ret
 exact ⟨rfl,rfl⟩):=h
def aIr(h:p:=by
 split
 ·rename_i zs hz
  simp only [R]
  have:=plL_R hz h
  rw [<-this]
 ·simp only [R];exact ⟨ys,rfl,normL_R h⟩):=h
def qv(h:p:=by simp only [Ac] at hx;subst hx;simp only [R] at h1;rw [h1]):=h
def aIs(h:p:=by
 have c1:s.i<s.n:=A8
 rw [AG (x:=s.i+1)];exact ⟨⟨A8,A8,h2,h3⟩,by simp only [mQ];omega⟩):=h
def aIt(h:p:=by
 simp only [Cb,Bt,ne_eq,C5,EM,AU,CJ,JA,Mn] at*
 (first|decide|(clear fin w0 w1a w1b w1c w4a w4b;omega))):=h
def aIu(h:p:=by
 split at hx
 ·obtain ⟨rfl,_,hx⟩:=hx;exact ⟨_,_,hx⟩
 ·obtain ⟨_,ad,hx,_⟩:=hx;exact ⟨_,_,hx⟩):=h
def dD(h:p:=by exact ⟨Z2,β2,c1,c2,by rw [c3];simp⟩):=h
def aIv(h:p:=by
 split at hx
 ·rename_i hk;subst hk;simp only [Ac] at hx;subst hx;simp only [R] at h1;rw [h1]
 ·cases hx):=h
def aIw(h:p:=by
 rename_i x ho;refine ⟨True,evalL G F x,aj,λH K=>?_⟩
 unfold spa opx;rw [h1,h2]
 simp [ho,T.all,putAt]):=h
def aIx(h:p:=by exact wJ s _ hI AQ aLD rfl rfl rfl rfl rfl rfl rfl rfl rfl rfl):=h
def aIy(h:p:=by exact wI s _ hI AQ aLD rfl rfl rfl rfl rfl rfl rfl rfl rfl rfl):=h
def aIz(h:p:=by
 refine (aes _ A6).2.trans ?_;rw [h7]
 show Dk _ 0 _ ((M s.p.AK.tg:Y)-0).toNat=_
 rw [Mp,Bs,afR];rfl):=h
def aJ0(h:p:=by
 have:=okL_v n<|(au<|len*m).map λi=>z.cells[i%z.cells.size]!
 simpa [Ek,VL] using this):=h
def K9(h:p:=by exact gen<|same h):=h
def qx(h:p:=by
 rw [AE e,h5 j j0 j1]
 by_cases q:j<s.i
 ·omega
 ·omega):=h
def qy(h:p:=by
 rintro s ⟨h0,h2⟩
 exact ⟨A0,A0,h2⟩):=h
def aJ1(h:p:=by
 rintro s ⟨h0,h1,h2,h3,h4⟩
 exact ⟨A0,A0,h2,h3,h4,EN,λj hj=>A0⟩):=h
def qz(h:p:=by
 simp only [AS,Cb] at hcalm
 simpa using hcalm.1.1.2):=h
def aIR(h:p:=by
 rename_i x ho;unfold opx;simp only [ho];rw [evalL_setF<|hl x D3];rfl):=h
def aIS(h:p:=by
 unfold Gi;split
 ·rename_i hc
  split
  ·rw [Hj h.1 h.2 hj]
   split
   ·grind
   ·omega
  ·omega
 ·omega):=h
def aIT(h:p:=by exact ⟨⟨AP,AP,h2,h3,h4,h5,h6⟩,by simp only [gr];omega⟩):=h
def aIU(h:p:=by
 simp only [toX];exact R.mono (n:=M H) (λ_ _=>rfl) (λ_ h=> .inl h) (λ_ _=>rfl) _ _ hk h):=h
def aIV(h:p:=by
 obtain ⟨_,_,h6,_⟩:=hI;simp only [AU] at c3;rw [<-h6] at c3
 have:=h.2
 unfold Dg at this;omega):=h
def Qa(h:p:=by exact ⟨rfl,A0⟩):=h
def aIW(h:p:=by
 rintro s ⟨ht,h0,h1,h2,h3⟩
 exact ⟨ht,⟨A0,A0⟩,h1,A8,A8⟩):=h
def dB(h:p:=by
 unfold hpx;simp only [ho];exact cf):=h
def aIX(h:p:=by
 rw [Fo A0,show (M fl:Y) / 2=((M fl / 2:aC):Y) by omega]
 exact AG):=h
def aIY(h:p:=by
 have h1:(0:Y)<=(x:Y)/\(x:Y)<=(y:Y):=A0
 simp [Instr.sliceBound,asIntOf,h1]):=h
def ON(h:p:=by
 simp only [ho];rw [e]):=h
def aIZ(h:p:=by exact R.mono (n:=0) (λ_ hk=>absurd hk A0) (λ_ h=>h) (λ_ _=>rfl) _ _ hk hr):=h
def aIa(h:p:=by
 subst h;exact EvL.set hb ⟨λhc=>sI,λ_ _ _=>trivial,λh=>h⟩):=h
def aIb(h:p:=by
 refine {h with mi:=λm hm=>?_}
 rcases mem_set hm with hm|rfl
 ·exact h.mi m hm
 ·simp):=h
def aIc(h:p:=by
 rw [pubGo_length];exact hF.mono (Ar _) (λ_ _=>rfl) (λ_ h=> .inl h) λ_ _=>rfl):=h
def qo(h:p:=by
 have c1:s.m<=s.i:=AQ
 exact dA):=h
def aId(h:p:=by
 have c1:s.n<=s.i:=AQ
 exact .inl ⟨rfl,λj hj=>h6 j A0⟩):=h
def aIe(h:p:=by
 rcases hz with hz|⟨k,bk,_,h2,h3,rfl⟩
 ·exact hW.zlt b hz
 ·exact hW.lt h2 h3):=h
def aIf(h:p:=by
 unfold G4 DK;rw [show au (M ([80]:aB)+1)=[0,1] from rfl]
 simp):=h
def aIg(h:p:=by
 (try simp only [T.all] at hv)
 (try simp only [T.all])
 rw [setF_comm a2];exact hv):=h
def qq(h:p:=by rw [<-h];exact mkAgg_R<|by simpa using f2):=h
def aIh(h:p:=by
 simp only [canX,R] at h|-;obtain ⟨ys,h1,h2⟩:=h;exact ⟨ys,h1,canL_R h2⟩):=h
def aIi(h:p:=by
 obtain ⟨h1,h2⟩:=idxs_mem b fs (k+1) i h;refine ⟨A0,?_⟩
 grind):=h
def Mv(h:p:=by simpa using this):=h
def aIj(h:p:=by refine fin _ _ _ _ _ _ ?_ ?_ ?_ ?_ ?_ hE.symm<;>simp [De,HI,CR,G1,Jm,hE]):=h
def aIk(h:p:=by exact EvL.set hb ⟨λhc=>sI,λ_ _ h=>h,λh=>h⟩):=h
def aIK(h:p:=by
 rw [hv] at s2;rw [wanted_none hg hd s2,AE AH];exact passOk F hF h):=h
def aIL(h:p:=by exact main _ es clock _ _ hr g1 g2 g3 hl b2.2 h<|.inr ⟨k,rfl,rfl⟩):=h
def aIM(h:p:=by
 simp only [R,Value.func.injEq,Fn.yield.injEq] at this;exact this.1.symm):=h
def aIN(h:p:=by
 split
 ·omega
 ·have:=fv (x:=a-mi) (st:=st) A0 A0
  omega):=h
def HZ(h:p:=by exact T.ev_no):=h
def aIO(h:p:=by
 unfold Es chW at this;simp only [AS,C1] at this;exact Fu.2 A0):=h
def qm(h:p:=by exact ⟨A0,A0,h2,h3,h4⟩):=h
def aIP(h:p:=by
 rw [AD q2,FI CN,EK CN]
 congr 1
 simp
 omega):=h
def aIQ(h:p:=by
 have:=Fu.1 h
 have:=fv (x:=ma-mi) (st:=st) A0 A0
 omega):=h
def qn(h:p:=by
 intro _ _ _ _ _ _ _ _ _ h;exact h.elim):=h
def dG(h:p:=by
 split at h
 ·grind
 ·cases h):=h
def aJJ(h:p:=by
 split at h
 ·rename_i hkk
  simp only [R,okV] at hr hk
  grind
 ·cases h):=h
def aJK(h:p:=by
 rw [AD q1];simp only [VK,DQ];rw [FI CN,aHT q1]
 simp):=h
def aJL(h:p:=by
 rintro s ⟨h0,h1,h2⟩
 exact ⟨A0,tA,h2⟩):=h
def aJM(h:p:=by (obtain ⟨⟨h0,h1⟩,h2,h3⟩:=hI;simp only [AU] at c1;omega)):=h
def aJN(h:p:=by
 obtain ⟨j,⟨h0,h1⟩,rfl⟩:=ae1 ha
 have:=gq<|h.ch h0 h1
 omega):=h
def rJ(h:p:=by
 have e1:=e1 w λ_ _=>rfl
 exact VZ):=h
def aJO(h:p:=by
 unfold hpx;simp only [ho];rw [genL_setF (λcs b e=>A8) h]):=h
def aJP(h:p:=by
 have:fs.toList[M fpre]? =ah f:=by rw [e1];simp
 exact Mv):=h
def aJQ(h:p:=by (obtain ⟨h0,h1,h2,h3,h4⟩:=hI;simp only [AU] at c1;omega)):=h
def aJR(h:p:=by
 rintro s ⟨h0,h2,h3,h4,h5⟩
 exact ⟨A0,h2,h3,h4,h5⟩):=h
def aJS(h:p:=by
 have hG':=hG
 simp only [GX,guardX,hb,T.all] at hG';exact hG'.1):=h
def aJT(h:p:=by
 have:es=[]:=EN
 subst this;exact .inr ⟨rfl,h.symm⟩):=h
def aJU(h:p:=by exact ext q g n.toNat A0 hle A0 hr hk h.symm):=h
def aJV(h:p:=by
 refine allR_ite (λc6=>?_) λc6=>?_
 ·exact aHd
 ·exact aHd):=h
def rK(h:p:=by rw [hl];simpa only [okV] using hk):=h
def aJW(h:p:=by exact val (v:=z) (λw' _=>aLO) f2 f3):=h
def Vl(h:p:=by
 split
 ·grind
 ·grind):=h
def rL(h:p:=by
 split at h
 ·cases h;rfl
 ·cases h):=h
def aJX(h:p:=by
 rintro s ⟨h0,h2,h3⟩
 exact ⟨A0,A0,h2,h3⟩):=h
def aJY(h:p:=by
 have:es=[]:=EN
 subst this;exact .inr ⟨rfl,rfl⟩):=h
def aJZ(h:p:=by exact T.all_mono (λz hz=>by simp only [T.all];rw [hz]) h):=h
def aJa(h:p:=by
 refine allR_ite (λc6=>?_) λc6=>?_
 ·cases c5
 ·cases c5):=h
def rM(h:p:=by rename_i hc;exact absurd hc hcap):=h
def aJb(h:p:=by
 simp only [T.all,Ai] at h;rw [<-h.2.2];exact EvL.app _ _):=h
def aJc(h:p:=by exact ⟨iG hI AQ<|NF hI c2,rfl,rfl⟩):=h
def aJ4(h:p:=by
 rintro s ⟨h0,h2,h3,h4⟩
 exact ⟨A0,h2,h3,h4⟩):=h
def aJ5(h:p:=by
 unfold az;simp only [yielded,hd,LZ,hv]
 grind):=h
def aJ6(h:p:=by
 unfold mergeV0;split<;>simp_all [R]
 split<;>simp_all [R]):=h
def aJ7(h:p:=by rename_i x ho;rw [e x D3]):=h
def rA(h:p:=by simp [isAl,isSt,okStore,wrt,ho]):=h
def aJ8(h:p:=by rw [AE hs];exact ⟨λh=>h.elim,λh=>absurd h.1 hs⟩):=h
def aJ9(h:p:=by exact val h2 (v:=z) aLO f2 f3):=h
def aJA(h:p:=by
 rw [IP] at hv;split at hv
 ·exact hc j v hv
 ·cases hv):=h
def rC(h:p:=by exact .inr ⟨i',.inl h1,h2⟩):=h
def aJB(h:p:=by
 simp [IntKind.wrap,IntKind.bits,IntKind.signed]
 omega):=h
def aJC(h:p:=by
 refine ⟨λc7=>?_,λc7=>?_⟩
 ·exact cZ
 ·exact cZ):=h
def aJD(h:p:=by
 refine ⟨λc7=>?_,λc7=>?_⟩
 ·exact aHb
 ·exact aHb):=h
def aJE(h:p:=by
 refine ⟨λc8=>?_,λc8=>?_⟩
 ·exact aHc
 ·exact aHc):=h
def rD(h:p:=by
 rw [<-et,resF_eq,agm]
 simp_all):=h
def rH(h:p:=by
 obtain ⟨h1,h2⟩:=azr h
 grind):=h
def aJF(h:p:=by
 rw [Av]
 show s.n+1-((M s.C3+1:aC):Y)=_
 omega):=h
def aJG(h:p:=by
 refine allR_ite (λc6=>?_) λc6=>?_
 ·grind
 ·grind):=h
def aJH(h:p:=by
 refine allR_ite (λc5=>?_) λc5=>?_
 ·grind
 ·grind):=h
def rI(h:p:=by
 rw [bad he AT,he];rfl):=h
def aJI(h:p:=by
 by_cases hji:(j:Y)<s.i
 ·exact h6 j hji
 ·exact aIm):=h
def A0(h:p:=by omega):=h
def CA(h:p:=by first|omega|exact ⟨rfl,rfl⟩ |exact ⟨rfl,by simp⟩ |exact ⟨by simp,by simp⟩ |(rw [Bv];omega)):=h
def A8(h:p:=by grind):=h
def AP(h:p:=by simp only;omega):=h
def AQ(h:p:=by simpa using c1):=h
def AM(h:p:=by kernel_rfl):=h
def AH(h:p:=by simp):=h
def aJ2(h:p:=by unfold S5;(obtain ⟨e0,e1,e2,e3,e4⟩:=h3;have hb:=e3 (gi s.l s.i).toNat;have c2:=c2;rw [AG (x:=s.sums.getD (gi s.l s.i).toNat (Ty.dflt A7)+s.more) (by show _<=s.sums.getD (gi s.l s.i).toNat 0+s.more;omega) (by show s.sums.getD (gi s.l s.i).toNat 0+s.more<=_;omega)] at c2;unfold Hy;first|(have c3:(!(an<|s.sums.getD (gi s.l s.i).toNat 0+s.more<=(By s.Ax<|gi s.l s.i).1))=true:=c2;simpa using c3) |(have c3:(!(an<|s.sums.getD (gi s.l s.i).toNat 0+s.more<=(By s.Ax<|gi s.l s.i).1))=false:=c2;simpa using c3))):=h
def JB(h:p:=by first|omega|exact ⟨rfl,rfl⟩ |exact ⟨rfl,by simp⟩ |(rw [Bv];omega)):=h
def AT(h:p:=by decide):=h
def Ab(h:p:=by cases h):=h
def dF(h:p:=by first|omega|exact ⟨rfl,rfl⟩ |exact ⟨rfl,by rw [Bs];first|exact l1.symm|exact l2.symm|exact l3.symm⟩ |exact ⟨rfl,by simp⟩ |exact ⟨by simp,by simp⟩ |(rw [Bv];omega)):=h
def D3(h:p:=by rw [ho];simp [Op.operands]):=h
def aJ3(h:p:=by unfold MW;(simp only [show an (s.i<1)=X from Fq<|by omega,CI];(simp only [chB,chA];revert c2;generalize byI s.text s.i=b;intro c2;by_cases h1:b>=97<;>by_cases h2:b<=122<;>by_cases h3:b>=48<;>by_cases h4:b<=57<;>simp_all))):=h
def Qb(h:p:=by simp [execOp,ho,resolve,invoke,builtin,Builtin.len_,ha,ht,Bw hu,e1,goInt]):=h
def Qc(h:p:=by simp only [renV,okV];have:=(pos_get 0<|ho k<|by simp [owns]).2.2;omega):=h
def aJl(h:p:=by unfold Ry;(first|(have c2:(!(inB (HO s.l s.i).2 0<|AA<|(M s.B1:Y)-1))=false:=c2;simpa using c2) |(have c2:(!(inB (HO s.l s.i).2 0<|AA<|(M s.B1:Y)-1))=true:=c2;simpa using c2))):=h
def Vr(h:p:=by rw [ho];simp only [Op.operands,Call.operands,agl];exact .inr<|by grind):=h
def aJm(h:p:=by unfold Rz;(first|(have c2:(!(Es (M s.At) (M s.B9)<|AF s.l s.i))=false:=c2;simpa using c2) |(have c2:(!(Es (M s.At) (M s.B9)<|AF s.l s.i))=true:=c2;simpa using c2))):=h
def D4(h:p:=by simpa using c2):=h
def Vt(h:p:=by simp only [toX,okV] at*;exact okL_map h λx hx=>toX_ok H hH d x hx):=h
def Qh(h:p:=by simp only [RD] at*;rw [<-h];exact hb 0<|by simp [Ty.n]):=h
def CN(h:p:=by simp;omega):=h
def GI(h:p:=by simp [owns]):=h
def Vu(h:p:=by unfold MkAt;rw [hw D (hW.mks D hD).1];exact (hW.mks D hD).2):=h
def H3(h:p:=by have c1:=C9 c1;omega):=h
def aJn(h:p:=by unfold S1;(first|(have c2:(!(Fe s.i<|Aa s.l s.i))=false:=c2;simpa using c2) |(have c2:(!(Fe s.i<|Aa s.l s.i))=true:=c2;simpa using c2))):=h
def OQ(h:p:=by have:=hW.lt hj lj;simp only at e;omega):=h
def aJo(h:p:=by unfold S4;(first|(have c2:(!(FY<|gi s.l s.i))=false:=c2;simpa using c2) |(have c2:(!(FY<|gi s.l s.i))=true:=c2;simpa using c2))):=h
def Vv(h:p:=by simp only [renV,okV,owns] at*;exact ren_okL l ho hk):=h
def Qi(h:p:=by simp [aA,Instr.sameNow,hk.1,hb]):=h
def Ha(h:p:=by simp [execOp,ho,e1]):=h
def EO(h:p:=by simpa using c):=h
def dO(h:p:=by simp [execOp,ho,e1,e2,eqGuard,binOp,Op.shift,Int.not_lt.2 h0]):=h
def Vx(h:p:=by simp only [okV,noOwn] at*;exact noOwnL_ok l h hk):=h
def Vy(h:p:=by simp only [owns,okV] at*;exact okL_owns l hk j h):=h
def Vz(h:p:=by simp only [owns,okV] at*;exact okL_lower l hk h):=h
def Li(h:p:=by rw [w7] at c3;exact C9 c3):=h
def azw(h:p:=by rw [Bs];first|exact l1.symm|exact l2.symm|exact l3.symm):=h
def Mx(h:p:=by rw [<-pt (xs:=args),hargs]):=h
def My(h:p:=by unfold PK.isC;simpa using c):=h
def W0(h:p:=by simp only [R,okV] at*;rw [hβ k hk];exact h):=h
def aJg(h:p:=by show _<=s.sums.getD (gi s.l s.i).toNat 0+s.more;omega):=h
def aJh(h:p:=by show s.sums.getD (gi s.l s.i).toNat 0+s.more<=_;omega):=h
def CP(h:p:=by cases c):=h
def dJ(h:p:=by simp only [R] at*;rw [hj k<|by simp [owns]];exact h):=h
def Vn(h:p:=by have:=hW.zlt _ hz;simp only at this;omega):=h
def OP(h:p:=by simp only [vk,vj,vi];exact h3):=h
def Qe(h:p:=by simp [owns] at h;subst h;exact hk):=h
def dK(h:p:=by simp [execOp,ho,e1,e2,eqGuard,binOp,Op.intDiv,h0]):=h
def aJi(h:p:=by rw [ho];simp only [Op.operands];first|exact Dp.2 ⟨q,hq,rfl⟩ |(simp;exact ⟨q.1,by grind⟩)):=h
def H0(h:p:=by simp only [R]):=h
def rP(h:p:=by rw [ho];simp only [Op.operands,agp,Dp];exact ⟨q,hq,rfl⟩):=h
def Vo(h:p:=by unfold Et;simp only [IN,DV];omega):=h
def aJj(h:p:=by simp only [R,b2];exact ⟨by omega,⟨w.heap.size,0,aj⟩,by simp,λ_=>by simp⟩):=h
def dM(h:p:=by simp only [okV] at*;exact okL.mono h l hk):=h
def Mw(h:p:=by simp only [vq];omega):=h
def JC(h:p:=by rw [he];decide):=h
def EN(h:p:=by simp_all):=h
def aJk(h:p:=by unfold S2;(obtain ⟨_,g1,g2⟩:=h3;rw [AG (x:=s.n-1)] at c2;simpa using c2)):=h
def Qf(h:p:=by simp only [okV] at*;omega):=h
def Vp(h:p:=by show M p.gs<=1000;omega):=h
def Qg(h:p:=by simpa only [R] using hh):=h
def rR(h:p:=by simp only [RD] at*;rw [cell_block hb];exact h):=h
def rS(h:p:=by simp only [RD] at*;exact putObj_cell h o' hh):=h
def dN(h:p:=by simp only [Av,Dz,BB,BG];omega):=h
def Vq(h:p:=by rw [<-e1,<-e2];exact hc.rf):=h
def Lh(h:p:=by simpa using c3):=h
def dH(h:p:=by unfold opx;simp only [ho,hm,ht]):=h
def aJd(h:p:=by unfold Nn;cases e1:BX l<;>cases e2:inB t 0 1100000<;>simp_all):=h
def Vm(h:p:=by simp [Ty.n]):=h
def IU(h:p:=by simp [okV]):=h
def OO(h:p:=by simp [loopsIn,hb]):=h
def aJe(h:p:=by simp [execOp,ho,e1,e2,Instr.index,asIntOf,Bw hu,h0,byI,hg]):=h
def rN(h:p:=by show (M s.p.AK.gs:Y)<=1000;omega):=h
def dI(h:p:=by simp only [agn,CI,AU];omega):=h
def Qd(h:p:=by simp [World.setRow]):=h
def aJf(h:p:=by show ((M (JH<|IZ d t).out:aC):Y)<20;omega):=h
def aK9(h:p:=by simp only [p1x,T.lv,Keeps];exact ⟨h.1,h.2,ak⟩):=h
def aKA(h:p:=by unfold I4;rw [wa];simp only [D8];rw [Bu h0,<-hb];rfl):=h
def W4(h:p:=by rw [<-e2];exact hc.rw):=h
def dV(h:p:=by simpa [looksI,ho] using ht):=h
def dW(h:p:=by simp [getObj,Sem.run,hh']):=h
def aKB(h:p:=by unfold leB;rw [wa];simp only [Ej];rw [Bu h0,<-hb]):=h
def OR(h:p:=by rw [c2];decide):=h
def IV(h:p:=by cases hb):=h
def Qk(h:p:=by simp [owns] at h):=h
def dX(h:p:=by simpa only [upF] using h):=h
def aKC(h:p:=by have:=hf 0;simp at this;simp [List.getD,<-this]):=h
def aKD(h:p:=by simp [IntKind.wrap,IntKind.bits,IntKind.signed]):=h
def dY(h:p:=by simp [az,hg]):=h
def dZ(h:p:=by simp only [R];rw [hv,e]):=h
def aKE(h:p:=by simp only [R] at*;rw [h,hj k<|by simp [owns]]):=h
def aKF(h:p:=by unfold Blk.owns;rw [hbk];exact BN.2<|.inr hj):=h
def dc(h:p:=by simpa only [Eg] using h):=h
def aKG(h:p:=by unfold QA;(simp only [inB];simp at c2|-;omega)):=h
def aKH(h:p:=by have:=hf<|j+1;simpa [FM,qB 1 j] using this):=h
def aKI(h:p:=by have:=ho<|j+1;simpa [FM,qB 1 j] using this):=h
def rp(h:p:=by rw [fu<|by omega];exact EL _):=h
def aKJ(h:p:=by simp [Array.getD,show 0<1+vals.size by omega]):=h
def Ql(h:p:=by simp at c;omega):=h
def aKK(h:p:=by unfold S6;(simp only [AU,CJ] at c2|-;omega)):=h
def aKL(h:p:=by unfold S3;(simp only [AU,CJ] at c2|-;omega)):=h
def dd(h:p:=by simp only [Ty.n];omega):=h
def rW(h:p:=by simp only [Act.eval];exact hv):=h
def aJt(h:p:=by simp only [R] at hr|-;rw [mvβ_at];exact hr):=h
def aJu(h:p:=by unfold Dx;rw [AD hp,AE (by rw [q3];simp)]):=h
def dT(h:p:=by simp only at hj;omega):=h
def rX(h:p:=by show ((0:aC):Y)<=0;decide):=h
def aJv(h:p:=by rw [Fo<|by omega];exact QO _<|by omega):=h
def rY(h:p:=by rw [encL_length];exact Ar _):=h
def rZ(h:p:=by simpa using B7.1 htr0 k hk):=h
def rh(h:p:=by simpa [FSw_length] using ht):=h
def rj(h:p:=by rw [CZ,Cs<|by omega];rfl):=h
def aJw(h:p:=by rw [ho];simp [Op.operands,Call.operands]):=h
def aJx(h:p:=by simp only [F5];rw [AE λhh=>by omega]):=h
def aJy(h:p:=by unfold lpC;rw [Bs];exact fZ<|by omega):=h
def aJz(h:p:=by unfold leC;rw [Bs];exact fZ<|by omega):=h
def aK1(h:p:=by unfold zeroT at hz;simpa [hi] using hz):=h
def dU(h:p:=by simp only [BlkR,g2]):=h
def aK2(h:p:=by simp [execOp,ho,Instr.makeFunc,hfirst]):=h
def aK3(h:p:=by unfold Nn at c;rw [AS] at c;exact c.1):=h
def aK4(h:p:=by unfold Dx;rw [AD hp,AD q2,<-r1,<-w1]):=h
def W3(h:p:=by simp [FX,h1,h2]):=h
def aK5(h:p:=by rw [cell_of_block hc];simpa using h1):=h
def aK6(h:p:=by simp [execOp,ho,e1,Instr.extract,e6]):=h
def aK7(h:p:=by simp [execOp,ho,Instr.makeFunc,hcap]):=h
def rk(h:p:=by simp [az,hgd]):=h
def aK8(h:p:=by rw [wu];exact λx hx=>h x<|by grind):=h
def Qj(h:p:=by rw [<-e];rfl):=h
def dP(h:p:=by have:=C9 c1;omega):=h
def dQ(h:p:=by rw [h5];exact vp _):=h
def aJp(h:p:=by show (M s.p.tg:Y)<=1000;omega):=h
def W1(h:p:=by simpa using he):=h
def aJq(h:p:=by have:=RL.length hr;simpa using this):=h
def W2(h:p:=by rw [c1];decide):=h
def rU(h:p:=by rw [<-hops];exact hcalm):=h
def aJr(h:p:=by simpa only [GX,guardX,hb] using hG):=h
def dS(h:p:=by simp [noOwn] at h):=h
def aJs(h:p:=by rcases hc with e|e<;>rw [e]<;>simp):=h
def sH(h:p:=by rw [encL_length];omega):=h
def aKh(h:p:=by simp [stepG,stepG.exec,Frame.atR]):=h
def aKi(h:p:=by unfold RU;(unfold LW C7;simp_all)):=h
def aKj(h:p:=by unfold DU;rw [Av,RC,Bv,Bv];rfl):=h
def W6(h:p:=by rw [h4];omega):=h
def W7(h:p:=by rw [EY];omega):=h
def aKk(h:p:=by have:=hr.length;simpa using this):=h
def dg(h:p:=by simp at c3;omega):=h
def aKl(h:p:=by show (M gs:Y)<=1000;omega):=h
def aKm(h:p:=by show (M cs:Y)<=1000;omega):=h
def aKn(h:p:=by unfold Ah;(repeat' split)<;>simp):=h
def aKo(h:p:=by show (M ds:Y)<=5000;omega):=h
def sI(h:p:=by simp [Blk.isCl] at hc):=h
def sJ(h:p:=by unfold Ay;rw [e1];rfl):=h
def aKp(h:p:=by simpa only [GX,guardX] using hG):=h
def aKq(h:p:=by show [(se,_)]=[(se,fl)];rw [z2]):=h
def Qn(h:p:=by simp [VL]):=h
def aKr(h:p:=by have:=okV_owns _ r3 k hk;omega):=h
def aKs(h:p:=by rw [G0<|by omega];exact EL _):=h
def aKt(h:p:=by show M s.p.tg<=1000;omega):=h
def sK(h:p:=by simp only [wo];omega):=h
def aKu(h:p:=by rw [pubGo_length];exact Ar _):=h
def aKv(h:p:=by rw [pubGo_length] at h2;omega):=h
def sM(h:p:=by simp [List.getD,hj]):=h
def dh(h:p:=by simpa using hl):=h
def aKw(h:p:=by simp only [codex,T.all] at h):=h
def OS(h:p:=by cases hd):=h
def aKR(h:p:=by rw [hC] at c3;simpa using c3):=h
def aKS(h:p:=by rw [hsz];exact hW.zlt b' hz):=h
def aKT(h:p:=by simp [setObj,Sem.run,w',g1]):=h
def aKU(h:p:=by simpa [memFree,ho] using hm):=h
def Qm(h:p:=by simp [ho]):=h
def aKV(h:p:=by rw [hls];exact (Fp.1 ho).1):=h
def aKW(h:p:=by rw [Bu h0,Iw,OV h0 hm,hx']):=h
def s9(h:p:=by rw [he];assumption):=h
def aKX(h:p:=by rw [DP.2 h] at c1;cases c1):=h
def aKY(h:p:=by simpa using (hW.gh p hp).2):=h
def aKZ(h:p:=by simp [execOp,ho,e1,asBool]):=h
def aKa(h:p:=by rw [hls];exact ready_lt hi):=h
def aKb(h:p:=by simp only [R] at*;exact h3):=h
def df(h:p:=by rw [e];decide):=h
def sB(h:p:=by cases x<;>exact h):=h
def sC(h:p:=by simp only [toX,R]):=h
def W5(h:p:=by simp at hl):=h
def aKc(h:p:=by simpa only [okV] using hk):=h
def aKd(h:p:=by simp only [BR];exact h10):=h
def aKe(h:p:=by simp only [BB,BG];omega):=h
def OT(h:p:=by cases e):=h
def aKf(h:p:=by simp [getObj,Sem.run,g1]):=h
def sF(h:p:=by simp [keyD] at h):=h
def aKg(h:p:=by simpa [loopsIn] using hb):=h
def sG(h:p:=by rw [h5];exact e1):=h
def ru(h:p:=by simp at c4;omega):=h
def aKM(h:p:=by rw [h2,Av,adZ,Bv];omega):=h
def ry(h:p:=by rw [hL];exact w9):=h
def aKN(h:p:=by simp only [BR];exact h9):=h
def s7(h:p:=by rw [Oh,Oh];omega):=h
def aKO(h:p:=by rw [hb];exact Og _ _ _ _):=h
def aKP(h:p:=by rw [hB];exact Og _ _ _ _):=h
def s8(h:p:=by simp [encL,RL,R]):=h
def aKQ(h:p:=by simpa using (ho 0).symm):=h
def aLE(h:p:=by simpa only [RL] using h):=h
def aLF(h:p:=by simp [touchB,wrt,ho,ha]):=h
def aLG(h:p:=by have:=(q2 hm).2.1;omega):=h
def aLH(h:p:=by rw [hw' r hzr];exact hh):=h
def W8(h:p:=by simp [RL]):=h
def sZ(h:p:=by simpa using hwt):=h
def sd(h:p:=by simp [c0,T.all]):=h
def sf(h:p:=by simp [c1,T.all]):=h
def sh(h:p:=by simp [c2,T.all]):=h
def sj(h:p:=by simp [c3,T.all]):=h
def sq(h:p:=by simp [c4,T.all]):=h
def ss(h:p:=by simp [c5,T.all]):=h
def aLI(h:p:=by rw [<-pt (xs:=ty),ht]):=h
def aLJ(h:p:=by simpa [ownsL] using hj):=h
def aLK(h:p:=by rw [hg];simpa using c5):=h
def aLL(h:p:=by rw [hb];exact Wb _ _ _):=h
def aLM(h:p:=by rw [hB];exact Wb _ _ _):=h
def aLN(h:p:=by simp only;rw [h.1];rfl):=h
def aLO(h:p:=by simp [execOp,ho,e1,f1]):=h
def su(h:p:=by simpa using hx):=h
def Qp(h:p:=by rw [b2]):=h
def sv(h:p:=by simpa using hj):=h
def aLP(h:p:=by simp only [T.all,DR]):=h
def tA(h:p:=by rw [h0,h1];rfl):=h
def tB(h:p:=by simpa using c4):=h
def aLQ(h:p:=by simp [F7] at h1;omega):=h
def sO(h:p:=by rw [DV];omega):=h
def aKx(h:p:=by rw [Bs];exact fk rfl):=h
def aKy(h:p:=by unfold De;rw [AD hE]):=h
def sP(h:p:=by rw [hE];decide):=h
def aKz(h:p:=by unfold PK.dE;rw [hxs]):=h
def aLA(h:p:=by unfold PK.dR;rw [hxs]):=h
def aLB(h:p:=by unfold PK.dL;rw [hxs]):=h
def aLC(h:p:=by unfold Br;rw [e1];rfl):=h
def aLD(h:p:=by unfold Dx;rw [AE hn]):=h
def di(h:p:=by rw [hl,h2]):=h
def sQ(h:p:=by simpa using e):=h
def sR(h:p:=by rw [c];decide):=h
def sS(h:p:=by decide+kernel):=h
def Qo(h:p:=by rw [h]):=h
def dj(h:p:=by simp [w']):=h
def sT(h:p:=by rw [<-hrec]):=h
def sU(h:p:=by rw [wL,Bv]):=h
def dn(h:p:=by simp [h]):=h
def dp(h:p:=by cases hi):=h
def dq(h:p:=by cases hp):=h
def sX(h:p:=by simp at hk):=h
def sY(h:p:=by rw [h1,h2]):=h
def Mz(h:p:=by rfl):=h
end Go
namespace Go.Proofs.YtjjcgjkagokchaaGreatDoor
abbrev _root_.Go.AA:Int→Int:=Go.IntKind.i64.wrap
theorem _root_.Go.A9 {α β:Sort _}{a:α}{b:β}:a=a∧b=b:=⟨rfl,rfl⟩
set_option maxRecDepth 100000
set_option maxHeartbeats 4000000
open Go.Proofs.Tryz
open Go.RowKit
structure More where
 g:Array Obj
 d:aC
instance:Inhabited More:=⟨⟨#[],0⟩⟩
open Go Go.RowKit
section
variable {P : Program} {ops : Array Oper} {md : Region.Mode} {G : Type} {D : World -> Prop} {C : G -> World -> Prop} {sp : Nat -> Bool}
def calmUpon (P:aR) (w:aO) (v:aV):Result Next->Prop
 | .ok (.value u) w'=>w'=w/\u=v
 | .ok .skip w'=>w'=w/\v=undef
 | .ok (.enter f args) w'=>w'=w/\Calls P f args w (λe w''=>e=.returned v/\Below w.heap.size w w'')
 |_=>False
def calmAt (P:aR) (o:aU) (a:bc) (w:aO) (v:aV):Prop:=calmUpon P w v<|(execOp a.eval o).run P w
def calm (P:aR) (o:aU) (a:bc) (D:aO->Prop) (next:bc->Prop):Prop:=∃v,(∀w,D w->calmAt P o a w v)/\next (a.put o.dst v)
def actUpon (P:aR) (R:aV->aO->Prop):Result Next->Prop
 | .ok (.value v) w'=>R v w'
 | .ok .skip w'=>R undef w'
 | .ok (.enter f args) w'=>Calls P f args w' λe w''=>∃v,e=.returned v/\R v w''
 | .ok (.round l f tmps assign body) w'=>RoundIn Fence.wide 0 P l f tmps assign body w' λe w''=>∃v,e=.returned v/\R v w''
 |_=>False
abbrev fen (r:bn):Fence:={Fence.wide with round:=r}
def semAt_eq {o:aU}{r:bn}{ρ:aL2->aV}(h:∀c,o.op≠ .defer c):o.semAt r ρ=execOp ρ o:=by
 unfold Oper.semAt;split
 ·rename_i c hc
  grind
 ·rfl
def defer_upon {o:aU}{ρ:aL2->aV}{w:aO}{c:Call}(h:o.op=.defer c):(∃d w',(execOp ρ o).run P w=.ok (.defer d) w')\/(∃x w',(execOp ρ o).run P w=.halt x w'):=by
 unfold execOp;cases hr:(resolve ρ c o.type).run P w with
 |ok d w'=>left;exact ⟨d,w',EN⟩
 |halt x w'=>right;exact ⟨x,w',EN⟩
def actAt (P:aR) (o:aU) (a:bc) (C:G->aO->Prop) (g:G) (K:bc->G->Prop):Prop:=
 ∀w,C g w->actUpon P (λv w'=>∃g',C g' w'/\K (a.put o.dst v) g') ((execOp a.eval o).run P w)
def gOp (P:aR) (ops:aJ) (D:aO->Prop) (C:G->aO->Prop) (sp:aC->aL) (i:aC) (K:bc->G->Prop) (a:bc) (g:G):Prop:=
 match ops[i]? with
 |none=>K a g
 |some o=>if az o (yielded ops a.tmps) then (if sp i then actAt P o a C g K else calm P o a D λa'=>K a' g) else K (a.put o.dst undef) g
def calm_mono {o:aU}{a:bc}{K K':bc->Prop}(h:∀a,K a->K' a) (hh:calm P o a D K):calm P o a D K':=
 let ⟨v,h1,h2⟩:=hh
 ⟨v,h1,h _ h2⟩
def actUpon_mono {R R':aV->aO->Prop}(h:∀v w,R v w->R' v w) {r:Result Next}(hh:actUpon P R r):actUpon P R' r:=by
 cases r with
 |ok n w'=>
  cases n<;>simp only [actUpon] at hh|-
  case value u=>exact h _ _ hh
  case skip=>exact h _ _ hh
  case enter f args=>exact hh.mono λe w'' ⟨v,he,hr⟩=>⟨v,he,h _ _ hr⟩
  case round l f tmps assign body=>exact hh.mono λe w'' ⟨v,he,hr⟩=>⟨v,he,h _ _ hr⟩
 |halt x w'=>simp only [actUpon] at hh
def actAt_mono {o:aU}{a:bc}{g:G}{K K':bc->G->Prop}(h:∀a g,K a g->K' a g) (hh:actAt P o a C g K):actAt P o a C g K':=
 λw hw=>actUpon_mono (λ_ _ ⟨g',hc,hk⟩=>⟨g',hc,h _ _ hk⟩)<|hh w hw
def gOp_mono {i:aC}{a:bc}{g:G}{K K':bc->G->Prop}(h:∀a g,K a g->K' a g) (hh:gOp P ops D C sp i K a g):gOp P ops D C sp i K' a g:=by
 unfold gOp at*;split
 ·grind
 ·rename_i o ho
  simp only [ho] at hh;split
  ·rename_i hw
   simp only [hw,BP] at hh;split
   ·rename_i hs;simp only [hs,BP] at hh;exact actAt_mono h hh
   ·rename_i hs;simp only [hs] at hh;exact calm_mono (λa=>h a g) hh
  ·grind
def wpAnyG (P:aR) (md:aMl) (ops:aJ) (D:aO->Prop) (C:G->aO->Prop) (sp:aC->aL) (Q:bc->G->Prop):aC->aY->bc->G->Prop
 |0,listed,a,g=>ay md ops listed=[]/\Q a g
 |fuel+1,listed,a,g=>
  (ay md ops listed=[]->Q a g)/\
  ∀i∈ay md ops listed,gOp P ops D C sp i (wpAnyG P md ops D C sp Q fuel<|listed.setIfInBounds i U) a g
def round_wide {r:bn}{m l:aC}{f:bg}{tmps:aW}{assign body:bE}{w:aO}{R:Ending->aO->Prop}(h:RoundIn Fence.wide 0 P l f tmps assign body w R):RoundIn (fen r) m P l f tmps assign body w R:=
 ⟨ak,λc cs _=>h.2 c cs<|room_wide _⟩
def wp_of_calm {o:aU}{a:bc}{K:bc->Prop}{K':bc->aO->Prop}{Q':aMm->bc->aO->Prop}{w:aO}(hw:D w)
  (h:∀a w',Below w.heap.size w w'->K a->K' a w') (hh:calm P o a D K) (r:bn) (m:aC):o.wpIn (fen r) m P a w K' Q':=by
 obtain ⟨v,h1,h2⟩:=hh
 have h3:=h1 w hw
 unfold calmAt at h3
 have hnd:∀c,o.op≠ .defer c:=λc hc=>by
  rcases defer_upon (P:=P) (ρ:=a.eval) (w:=w) hc with ⟨d,w',e⟩ |⟨d,w',e⟩<;>rw [e] at h3<;>simp only [calmUpon] at h3
 refine ⟨λ_ _=>trivial,?_⟩
 rw [semAt_eq hnd];generalize (execOp a.eval o).run P w=r at*;cases r with
 | ok n w'=>
  cases n<;>simp only [calmUpon] at h3<;>simp only [Oper.uponIn]
  case value u=>
   obtain ⟨e1,e2⟩:=h3;rw [e1,e2];exact h _ _ (Below.refl _ _) h2
  case skip=>
   obtain ⟨e1,e2⟩:=h3;rw [e1,<-e2];exact h _ _ (Below.refl _ _) h2
  case enter f args=>
   obtain ⟨e1,hc⟩:=h3;rw [e1];exact ⟨λh=>Ab,QU.2<|hc.mono λe w'' ⟨he,hw''⟩=>A8⟩
 |halt x w'=>simp only [calmUpon] at h3
def wp_of_act {o:aU}{a:bc}{g:G}{K:bc->G->Prop}{K':bc->aO->Prop}{Q':aMm->bc->aO->Prop}{w:aO}(hw:C g w)
  (h:∀a g w',C g w'->K a g->K' a w') (hh:actAt P o a C g K) (r:bn) (m:aC):o.wpIn (fen r) m P a w K' Q':=by
 have h3:=hh w hw
 have hnd:∀c,o.op≠ .defer c:=λc hc=>by
  rcases defer_upon (P:=P) (ρ:=a.eval) (w:=w) hc with ⟨d,w',e⟩ |⟨d,w',e⟩<;>rw [e] at h3<;>simp only [actUpon] at h3
 refine ⟨λ_ _=>trivial,?_⟩
 rw [semAt_eq hnd];generalize (execOp a.eval o).run P w=r at*;cases r with
 | ok n w'=>
  cases n<;>simp only [actUpon] at h3<;>simp only [Oper.uponIn]
  case value u=>obtain ⟨g',h1,h2⟩:=h3;exact h _ _ _ h1 h2
  case skip=>obtain ⟨g',h1,h2⟩:=h3;exact h _ _ _ h1 h2
  case enter f args=>
   exact ⟨λh=>Ab,QU.2<|h3.mono λe w'' ⟨v,he,g',h1,h2⟩=>A8⟩
  case round l f tmps assign body=>
   exact ⟨λh=>Ab,round_wide<|h3.mono λe w'' ⟨v,he,g',h1,h2⟩=>A8⟩
 |halt x w'=>simp only [actUpon] at h3
def wpOp_of_gOp (hD:∀g w,C g w->D w) (hkeep:∀g w w',C g w->Below w.heap.size w w'->C g w') {i:aC}{a:bc}{g:G}{K:bc->G->Prop}{K':bc->aO->Prop}{Q':aMm->bc->aO->Prop}{w:aO}(hC:C g w)
  (h:∀a g w',C g w'->K a g->K' a w') (hh:gOp P ops D C sp i K a g) (r:bn) (m:aC):wpOpIn (fen r) m P ops Q' i K' a w:=by
 unfold gOp at hh;unfold wpOpIn;split
 ·grind
 ·rename_i o ho
  simp only [ho] at hh;split
  ·rename_i hw
   simp only [hw,BP] at hh
   by_cases hs:sp i=U
   ·simp only [hs,BP] at hh;exact wp_of_act hC h hh r m
   ·simp only [hs] at hh;exact wp_of_calm (hD _ _ hC) (λa w' hb hk=>h a g w' (hkeep _ _ _ hC hb) hk) hh r m
  ·rename_i hw;simp only [hw] at hh;exact ⟨λ_ _=>trivial,h _ _ _ hC hh⟩
def wpAny_of_G (hD:∀g w,C g w->D w) (hkeep:∀g w w',C g w->Below w.heap.size w w'->C g w') {Q:bc->G->Prop}{Q':aMm->bc->aO->Prop}(hQ:∀a g w,C g w->Q a g->Q' .normal a w) (r:bn) (m:aC):
  ∀(fuel:aC) (listed:aY) (a:bc) (g:G) (w:aO),C g w->wpAnyG P md ops D C sp Q fuel listed a g->wpAnyIn (fen r) m P md ops Q' fuel listed a w
 |0,_,_,_,_,hw,h=>⟨h.1,hQ _ _ _ hw h.2⟩
 |fuel+1,_,_,_,_,hw,h=>⟨λh0=>hQ _ _ _ hw<|h.1 h0,λi hi=>wpOp_of_gOp hD hkeep hw (λa' g' w' hw'=>wpAny_of_G hD hkeep hQ r m fuel _ a' g' w' hw') (h.2 i hi) r m⟩
def YieldsC (P:aR) (ops:aJ) (D:aO->Prop) (o:aU) (v:aV) (a:bc):Prop:=
 (az o (yielded ops a.tmps)=U/\∀w,D w->calmAt P o a w v)\/
 (az o (yielded ops a.tmps)=X/\v=undef)
def YieldsC.gOp {i:aC}{o:aU}{v:aV}{a:bc}{g:G}(hi:ops[i]? =ah o) (hs:sp i=X) (hy:YieldsC P ops D o v a) {K:bc->G->Prop}(h:K (a.put o.dst v) g):gOp P ops D C sp i K a g:=by
 unfold Go.Proofs.YtjjcgjkagokchaaGreatDoor.gOp;simp only [hi];rcases hy with ⟨hw,hv⟩ |⟨hw,rfl⟩
 ·simp only [hw,BP,hs,FJ,E4];exact ⟨v,hv,h⟩
 ·grind
def YieldsC.of_same {o:aU}{v:aV}{a a':bc}(hy:YieldsC P ops D o v a) (he:execOp a'.eval o=execOp a.eval o)
  (hw:az o (yielded ops a'.tmps)=az o (yielded ops a.tmps)):YieldsC P ops D o v a':=by
 unfold YieldsC calmAt at*
 rwa [he,hw]
def yieldsC_of_gOp {i:aC}{o:aU}{a:bc}{g:G}{K:bc->G->Prop}(hi:ops[i]? =ah o) (hs:sp i=X) (h:gOp P ops D C sp i K a g):∃v,YieldsC P ops D o v a/\K (a.put o.dst v) g:=by
 unfold gOp at h;simp only [hi] at h
 by_cases hw:az o (yielded ops a.tmps)=U
 ·simp only [hw,BP,hs,FJ,E4] at h
  obtain ⟨v,h1,h2⟩:=h;exact ⟨v,.inl ⟨hw,h1⟩,h2⟩
 ·simp only [hw] at h
  exact ⟨undef,.inr ⟨A8,rfl⟩,h⟩
def gOp_put {j:aC}{oi oj:aU}{v:aV}(hj:ops[j]? =ah oj) (hap:oi.apart ops oj=U)
  (hsi:∀cs b,oi.op≠ .select cs b) (hsj:∀cs b,oj.op≠ .select cs b) {K:bc->G->Prop} {a:bc} {g:G}
  (hy:YieldsC P ops D oi v a) (h:gOp P ops D C sp j K (a.put oi.dst v) g):
  gOp P ops D C sp j (λa' g'=>YieldsC P ops D oi v a'/\K (a'.put oi.dst v) g') a g:=by
 obtain ⟨h1,h2,h3⟩:=VO hap
 have keep:∀(a:bc),YieldsC P ops D oi v a->∀u,YieldsC P ops D oi v (a.put oj.dst u):=λa hy u=>
  hy.of_same (execOp_put oi hsi a oj.dst u h3) (wanted_put oi a oj.dst u h3)
 unfold gOp at*;simp only [hj] at*;rw [wanted_put oj a oi.dst v h1] at h;split
 ·rename_i hw
  simp only [hw,BP] at h;split
  ·rename_i hs
   simp only [hs,BP] at h;intro w hw'
   have:=h w hw'
   rw [execOp_put oj hsj a oi.dst v h1] at this;refine actUpon_mono (λu w'' ⟨g',hc,hk⟩=>⟨g',hc,keep a hy u,?_⟩) this
   rw [<-Act.put_comm a v u h2];exact hk
  ·rename_i hs
   simp only [hs] at h;obtain ⟨u,hu,hn⟩:=h;refine ⟨u,λw hw'=>?_,keep a hy u,by rw [<-Act.put_comm a v u h2];exact hn⟩
   have:=hu w hw'
   unfold calmAt at*
   rwa [execOp_put oj hsj a oi.dst v h1] at this
 ·rename_i hw
  simp only [hw] at h;exact ⟨keep a hy _,by rw [<-Act.put_comm a v undef h2];exact h⟩
def wpAnyG_first {Q:bc->G->Prop}{i:aC}{oi:aU}{v:aV}(hi:ops[i]? =ah oi) (hs:sp i=X) (hsel:∀(j:aC) (o:aU) cs b,ops[j]? =ah o->o.op≠ .select cs b):
  ∀(fuel:aC) (listed:aY) (a:bc) (g:G),
   (∀j oj,ops[j]? =ah oj->j≠i->listed.getD j U=X->(∀e∈oj.after,Region.binds md e=U->e.on≠i)->oi.apart ops oj=U)->
   i∈ay md ops listed->YieldsC P ops D oi v a->
   wpAnyG P md ops D C sp Q fuel (listed.setIfInBounds i U) (a.put oi.dst v) g->wpAnyG P md ops D C sp Q (fuel+1) listed a g:=by
 intro fuel
 induction fuel with
 | zero=>
  intro listed a g _ hr hy H;refine ⟨λh=>A8,λj hj=>?_⟩
  by_cases hji:j=i
  ·subst hji;exact hy.gOp hi hs H
  ·have:=ready_mono hj hji
   rw [H.1] at this;cases this
 | succ fuel ih=>
  intro listed a g hfree hr hy H;refine ⟨λh=>A8,λj hj=>?_⟩
  by_cases hji:j=i
  ·subst hji;exact hy.gOp hi hs H
  ·have h1:=H.2 j (ready_mono hj hji)
   obtain ⟨hjun,oj,hoj,hall⟩:=Gw.1 hj
   have hnot:∀e∈oj.after,Region.binds md e=U->e.on≠i:=λe he hb heq=>by
    have h1:=hall e he hb
    have h0:=(Gw.1 hr).1
    rcases ck i listed.size with h'|h'
    ·grind
    ·grind
   have h2:=gOp_put hoj (hfree j oj hoj hji hjun hnot) (λcs b=>hsel i oi cs b hi) (λcs b=>hsel j oj cs b hoj) hy h1
   have hfree':∀k ok,ops[k]? =ah ok->k≠i->(listed.setIfInBounds j U).getD k U=X->
     (∀e∈ok.after,Region.binds md e=U->e.on≠i)->oi.apart ops ok=true:=λk ok hk hki hun hno=>by
    refine hfree k ok hk hki ?_ hno
    by_cases hjk:j=k
    ·grind
    ·simp_all
   refine gOp_mono (λa' g' h3=>ih (listed.setIfInBounds j U) a' g' hfree' (ready_mono hr<|Lc hji) h3.1 ?_) h2
   rw [Array.setIfInBounds_comm _ _ hji];exact h3.2
def wpP1 (P:aR) (ops:aJ) (D:aO->Prop) (K:bc->Prop):bh->bw->bc->Prop
 |f::fs,o::os,a=>if f then wpP1 P ops D K fs os a else if az o (yielded ops a.tmps) then calm P o a D (wpP1 P ops D K fs os) else wpP1 P ops D K fs os (a.put o.dst undef)
 |_,_,a=>K a
def wpP2 (P:aR) (ops:aJ) (C:G->aO->Prop) (Q:bc->G->Prop):bh->bw->bc->G->Prop
 |f::fs,o::os,a,g=>if f then (if az o (yielded ops a.tmps) then actAt P o a C g (wpP2 P ops C Q fs os) else wpP2 P ops C Q fs os (a.put o.dst undef) g) else wpP2 P ops C Q fs os a g
 |_,_,a,g=>Q a g
def ordB (md:aMl) (ops:aJ) (flags:bh):aH->aY->Bool
 | [],listed=>(ay md ops listed).isEmpty
 |i::is,listed=>(if flags.getD i X then ay md ops listed==[i] else (ay md ops listed).contains i&&Region.free md ops listed i)&&ordB md ops flags is (listed.setIfInBounds i U)
def idxs (b:aL):bh->aC->List Nat
 | [],_=>[]
 |f::fs,k=>if f=b then k::idxs b fs (k+1) else idxs b fs (k+1)
def calmB (ops:aJ) (flags:bh):aL:=letI a:=idxs X flags 0++idxs U flags 0;Region.noSelect ops&&M flags==ops.size&&M a==ops.size&&ordB .any ops flags a (Array.replicate ops.size X)
def wpAnyG_order {flags:bh}{Q:bc->G->Prop}(hs:Region.noSelect ops=U):∀(is:aH) (listed:aY) (a:bc) (g:G),
  ordB md ops flags is listed=U->(is.foldr (λi K=>gOp P ops D C (λi=>flags.getD i X) i K) Q) a g->wpAnyG P md ops D C (λi=>flags.getD i X) Q (M is) listed a g
 | [],_,_,_,hB,h=>⟨by simpa [ordB] using hB,h⟩
 | i::is,listed,a,g,hB,h=>by
  simp only [ordB,AS] at hB;obtain ⟨h1,h2⟩:=hB;simp only [cP] at h
  by_cases hf:flags.getD i X=U
  ·simp only [hf,BP,Cb] at h1
   refine ⟨λh0=>A8,λj hj=>?_⟩
   rw [h1] at hj;obtain rfl:=IM.1 hj;exact gOp_mono (λa' g' hk=>wpAnyG_order hs is _ a' g' h2 hk) h
  ·rw [AE hf,AS] at h1
   obtain ⟨hr,hfr⟩:=h1
   have hr':i∈ay md ops listed:=A8
   obtain ⟨_,oi,hoi,_⟩:=Gw.1 hr';obtain ⟨v,hy,hK⟩:=yieldsC_of_gOp hoi A8 h;exact wpAnyG_first hoi A8 (Region.noSelect_spec hs) (M is) listed a g (Region.free_spec hoi hfr) hr' hy<|wpAnyG_order hs is _ _ _ h2 hK
def fold_false {flags:bh}{Q:bc->G->Prop}:∀(fs:bh) (os:bw) (k:aC),(∀j,fs[j]? =flags[k+j]?)->(∀j,os[j]? =ops[k+j]?)->M fs=M os->
  ∀(a:bc) (g:G),wpP1 P ops D (λa=>Q a g) fs os a->((idxs X fs k).foldr (λi K=>gOp P ops D C (λi=>flags.getD i X) i K) Q) a g
 | [],[],_,_,_,_,_,_,h=>h
 | f::fs,o::os,k,hf,ho,hl,a,g,h=>by
  have ho0:ops[k]? =ah o:=aKQ
  have hf0:flags.getD k X=f:=aKC
  have ih:=fold_false (Q:=Q) (flags:=flags) fs os (k+1) (λj=>aKH) (λj=>aKI) A8
  cases f with
  |true=>simp only [idxs,wpP1,Bool.true_eq_false,BP,E4] at h|-;exact ih a g h
  |false=>
   simp only [idxs,wpP1,BP,FJ,E4] at h|-;simp only [cP];unfold gOp;simp only [ho0,hf0,FJ,E4];split
   ·rename_i hw;simp only [hw,BP] at h;exact calm_mono (λa' hk=>ih a' g hk) h
   ·rename_i hw;simp only [hw] at h;exact ih _ _ h
 | [],_::_,_,_,_,hl,_,_,_=>A8
 |_::_,[],_,_,_,hl,_,_,_=>A8
def fold_true {flags:bh}{Q:bc->G->Prop}:∀(fs:bh) (os:bw) (k:aC),(∀j,fs[j]? =flags[k+j]?)->(∀j,os[j]? =ops[k+j]?)->M fs=M os->
  ∀(a:bc) (g:G),wpP2 P ops C Q fs os a g->((idxs U fs k).foldr (λi K=>gOp P ops D C (λi=>flags.getD i X) i K) Q) a g
 | [],[],_,_,_,_,_,_,h=>h
 | f::fs,o::os,k,hf,ho,hl,a,g,h=>by
  have ho0:ops[k]? =ah o:=aKQ
  have hf0:flags.getD k X=f:=aKC
  have ih:=fold_true (Q:=Q) (flags:=flags) fs os (k+1) (λj=>aKH) (λj=>aKI) A8
  cases f with
  |false=>simp only [idxs,wpP2,FJ,E4] at h|-;exact ih a g h
  |true=>
   simp only [idxs,wpP2,BP] at h|-;simp only [cP];unfold gOp;simp only [ho0,hf0,BP];split
   ·rename_i hw;simp only [hw,BP] at h;exact actAt_mono (λa' g' hk=>ih a' g' hk) h
   ·rename_i hw;simp only [hw] at h;exact ih _ _ h
 | [],_::_,_,_,_,hl,_,_,_=>A8
 |_::_,[],_,_,_,hl,_,_,_=>A8
def wp_any_calm {r:bn}{m:aC}{Q:aMm->bc->aO->Prop}{a:bc}{w:aO}{l:bw}(flags:bh) (g:G)
  (hB:calmB l.toArray flags=U) (hD:∀g w,C g w->D w) (hkeep:∀g w w',C g w->Below w.heap.size w w'->C g w') (hC:C g {w with drawn:=w.drawn+1})
  (h:wpP1 P l.toArray D (λa1=>wpP2 P l.toArray C (λa' g'=>∀w',C g' w'->Q .normal a' w') flags l a1 g) flags l a):wpAnyIn (fen r) m P .any l.toArray Q l.toArray.size (Array.replicate l.toArray.size X) a {w with drawn:=w.drawn+1}:=by
 simp only [calmB,AS,Cb] at hB;obtain ⟨⟨⟨h1,h2⟩,h3⟩,h4⟩:=hB;refine wpAny_of_G (D:=D) (C:=C) (sp:=λi=>flags.getD i X) hD hkeep (Q:=λa' g'=>∀w',C g' w'->Q .normal a' w') (λ_ _ w' hw' h=>h w' hw') r m _ _ _ g _ hC ?_
 have h5:=wpAnyG_order (P:=P) (D:=D) (C:=C) (Q:=λa' g'=>∀w',C g' w'->Q .normal a' w') h1 _ _ a g h4
 rw [h3] at h5;refine h5 ?_;rw [List.foldr_append];refine fold_false flags l 0 AH AH A8 a g ?_;refine (?_:∀(fs:bh) (os:bw) (a:bc),wpP1 P l.toArray D (λa1=>wpP2 P l.toArray C (λa' g'=>∀w',C g' w'->Q .normal a' w') flags l a1 g) fs os a->wpP1 P l.toArray D (λa=>(List.foldr (λi K=>gOp P l.toArray D C (λi=>flags.getD i X) i K) (λa' g'=>∀w',C g' w'->Q .normal a' w')<|idxs U flags 0) a g) fs os a) flags l a h
 intro fs
 induction fs with
 |nil=>intro os a hh;cases os<;>exact fold_true flags l 0 AH AH A8 _ _ hh
 | cons f fs ih=>
  intro os a hh;cases os with
  |nil=>exact fold_true flags l 0 AH AH A8 _ _ hh
  | cons o os=>
   simp only [wpP1] at hh|-;split
   ·grind
   ·rename_i hf
    simp only [hf,FJ,E4] at hh;split
    ·rename_i hw;simp only [hw,BP] at hh;exact calm_mono (λa' hk=>ih _ _ hk) hh
    ·grind
def wpP1_end {D:aO->Prop}{K:bc->Prop}{a:bc}(h:K a):wpP1 P ops D K [] [] a:=by simpa [wpP1] using h
def wpP2_end {C:G->aO->Prop}{Q:bc->G->Prop}{a:bc}{g:G}(h:Q a g):wpP2 P ops C Q [] [] a g:=by simpa [wpP2] using h
def ordC (md:aMl) (ops:aJ):aH->aY->Bool
 | [],_=>U
 |i::is,listed=>((ay md ops listed).contains i&&Region.free md ops listed i)&&ordC md ops is (listed.setIfInBounds i U)
def afterL:aH->aY->Array Bool
 | [],l=>l
 |i::is,l=>afterL is<|l.setIfInBounds i U
def wpAnyG_calms {flags:bh}{Q:bc->G->Prop}(hs:Region.noSelect ops=U) (m:aC):∀(is:aH) (listed:aY) (a:bc) (g:G),(∀i∈is,flags.getD i X=X)->
  ordC md ops is listed=U->(is.foldr (λi K=>gOp P ops D C (λi=>flags.getD i X) i K) λa g=>wpAnyG P md ops D C (λi=>flags.getD i X) Q m (afterL is listed) a g) a g->wpAnyG P md ops D C (λi=>flags.getD i X) Q (M is+m) listed a g
 | [],_,_,_,_,_,h=>by rw [BG,Ck];exact h
 |i::is,listed,a,g,hf,hB,h=>by
  simp only [ordC,AS] at hB;obtain ⟨⟨hr,hfr⟩,h2⟩:=hB;simp only [cP,afterL] at h
  have hfi:=hf i AH
  have hr':i∈ay md ops listed:=A8
  obtain ⟨_,oi,hoi,_⟩:=Gw.1 hr';obtain ⟨v,hy,hK⟩:=yieldsC_of_gOp hoi hfi h
  have:=wpAnyG_first hoi hfi (Region.noSelect_spec hs) (M is+m) listed a g (Region.free_spec hoi hfr) hr' hy<|wpAnyG_calms hs m is _ _ _ (λj hj=>hf j A8) h2 hK
  grind
def idxs_mem (b:aL):∀(fs:bh) (k i:aC),i∈idxs b fs k->k<=i/\fs[i-k]? =ah b
 | [],_,_,h=>by simp [idxs] at h
 | f::fs,k,i,h=>by
  simp only [idxs] at h;split at h
  ·rename_i hf
   rcases Ak.1 h with rfl|h
   ·grind
   ·exact aIi
  ·exact aIi
def floatB (ops:aJ) (flags:bh):aL:=
 Region.noSelect ops&&M flags==ops.size&&M (idxs X flags 0)+M (idxs U flags 0)==ops.size&&ordC .any ops (idxs X flags 0) (Array.replicate ops.size X)
def wp_any_float {r:bn}{m:aC}{Q:aMm->bc->aO->Prop}{a:bc}{w:aO}{l:bw}(flags:bh) (g:G)
  (hB:floatB l.toArray flags=U) (hD:∀g w,C g w->D w) (hkeep:∀g w w',C g w->Below w.heap.size w w'->C g w') (hC:C g {w with drawn:=w.drawn+1})
  (h:wpP1 P l.toArray D (λa1=>wpAnyG P .any l.toArray D C (λi=>flags.getD i X) (λa' g'=>∀w',C g' w'->Q .normal a' w') (M<|idxs U flags 0) (afterL (idxs X flags 0)<|Array.replicate l.toArray.size X) a1 g) flags l a):wpAnyIn (fen r) m P .any l.toArray Q l.toArray.size (Array.replicate l.toArray.size X) a {w with drawn:=w.drawn+1}:=by
 simp only [floatB,AS,Cb] at hB;obtain ⟨⟨⟨h1,h2⟩,h3⟩,h4⟩:=hB;refine wpAny_of_G (D:=D) (C:=C) (sp:=λi=>flags.getD i X) hD hkeep (Q:=λa' g'=>∀w',C g' w'->Q .normal a' w') (λ_ _ w' hw' h=>h w' hw') r m _ _ _ g _ hC ?_
 have h5:=wpAnyG_calms (P:=P) (D:=D) (C:=C) (flags:=flags) (Q:=λa' g'=>∀w',C g' w'->Q .normal a' w') h1 (M<|idxs U flags 0) (idxs X flags 0) _ a g (λi hi=>by
  obtain ⟨_,h⟩:=idxs_mem X flags 0 i hi;simp only [Nat.sub_zero] at h
  simp [List.getD,h]) h4
 rw [h3] at h5;refine h5 ?_;exact fold_false flags l 0 AH AH A8 a g h
def backL (md:aMl) (ops:aJ):aC->aH->List Nat
 |0,l=>l
 |k+1,l=>l++backL md ops k (l.flatMap λi=>match ops[i]? with
  |some o=>(o.after.toList.filter<|Region.binds md).map (·.on)
  |none=>[])
def Closed (md:aMl) (ops:aJ) (listed:aY):Prop:=
 ∀(i:aC) (o:aU),ops[i]? =ah o->listed.getD i X=U->∀e∈o.after,Region.binds md e=U->listed.getD e.on X=U
def Closed.back {listed:aY}(hc:Closed md ops listed):∀(k:aC) (l:aH),(∀i∈l,listed.getD i X=U)->∀i∈backL md ops k l,listed.getD i X=U
 |0,_,h=>h
 | k+1,l,h=>λi hi=>by
  simp only [backL,BN] at hi;rcases hi with hi|hi
  ·exact h i hi
  ·refine Closed.back hc k _ (λj hj=>?_) i hi
   obtain ⟨i',h1,h2⟩:=List.mem_flatMap.1 hj;split at h2
   ·rename_i o ho
    obtain ⟨e,h3,rfl⟩:=Dp.1 h2;obtain ⟨h4,h5⟩:=Fs.1 h3;exact hc i' o ho (h i' h1) e A8 h5
   ·cases h2
def Closed.put {listed:aY}(hc:Closed md ops listed) {i:aC}(hi:i∈ay md ops listed):Closed md ops (listed.setIfInBounds i U):=λj o hj hl e he hb=>by
 by_cases hij:i=j
 ·subst hij
  obtain ⟨_,o',ho',h2⟩:=Gw.1 hi;obtain rfl:o'=o:=DE<|ho'.symm.trans hj;exact getD_set_true<|h2 e he hb
 ·rw [VN X hij] at hl
  exact getD_set_true<|hc j o hj hl e he hb
def getD_tt {l:aY}{i:aC}(h:i<l.size):l.getD i U=l.getD i false:=dn
def ready_lt {listed:aY}{i:aC}(h:i∈ay md ops listed):i<ops.size:=by
 obtain ⟨_,o,ho,_⟩:=Gw.1 h
 grind
end
structure Near (tr:aH) (w w':aO):Prop where
 os:w'.os=w.os
 tape:w'.tape=w.tape
 output:w'.output=w.output
 size:w.heap.size<=w'.heap.size
 block:∀k,k<w.heap.size->k∉tr->w'.heap[k]? =w.heap[k]?
def near_below {tr:aH}{w w1 w2:aO}(h:Near tr w w1) (hb:Below w1.heap.size w1 w2):Near tr w w2:=
 ⟨hb.os.trans h.os,hb.tape.trans h.tape,hb.output.trans h.output,E5 h.size hb.size,λk hk hn=>(hb.block k<|VT hk h.size).trans<|h.block k hk hn⟩
def Near.refl (tr:aH) (w:aO):Near tr w w:=⟨rfl,rfl,rfl,Ar _,λ_ _ _=>rfl⟩
end Go.Proofs.YtjjcgjkagokchaaGreatDoor
namespace Go.Sx
open Go.Proofs.YtjjcgjkagokchaaGreatDoor
open Go Go.RowKit
inductive Ty where
 |int (k:IntKind)
 |bool
 |str
 |sl (e:Ty)
 |pair (a b:Ty)
abbrev A7:Ty:=.int .i64
abbrev Ty.D:Ty->Type
 | .int _=>Int
 | .bool=>Bool
 | .str=>ByteArray
 | .sl e=>List e.D
 | .pair a b=>a.D×b.D
def Ty.n:Ty->Nat
 | .pair a b=>a.n+b.n
 |_=>1
def Ty.dflt:(t:Ty)->t.D
 | .int _=>(0:Y)
 | .bool=>X
 | .str=>ByteArray.empty
 | .sl _=>[]
 | .pair a b=>(a.dflt,b.dflt)
abbrev gx {e:Ty}(l:List e.D) (n:Y):e.D:=l.getD n.toNat e.dflt
def RD (Z:aC->Prop) (w:aO):(t:Ty)->t.D->aC->aC->Prop
 | .int k,n,b,o=>w.cell? ⟨b,o,aj⟩=ah (ag k n)
 | .bool,x,b,o=>w.cell? ⟨b,o,aj⟩=ah (.bool x)
 | .str,s,b,o=>w.cell? ⟨b,o,aj⟩=ah (.string s)
 | .sl e,l,b,o=>∃a cap,w.cell? ⟨b,o,aj⟩=ah (.slice a (M l) cap)/\M l<=cap/\(0<M l->∃b' o',a=ah ⟨b',o',aj⟩/\Z b'/\∀(i:aC) (d:e.D),l[i]? =ah d->RD Z w e d b' (o'+i*e.n))
 | .pair x y,d,b,o=>RD Z w x d.1 b o/\RD Z w y d.2 b (o+x.n)
def cell_block {w w':aO}{b o:aC}(h:w'.heap[b]? =w.heap[b]?):w'.cell? ⟨b,o,aj⟩=w.cell? ⟨b,o,aj⟩:=World.cell?_of_block (w:=w) (w':=w') h
def RD.keep {Z Z':aC->Prop}{w w':aO}(hZ:∀b,Z b->Z' b) (hw:∀b,Z b->w'.heap[b]? =w.heap[b]?):
  ∀(t:Ty) (d:t.D) (b o:aC),w'.heap[b]? =w.heap[b]? ->RD Z w t d b o->RD Z' w' t d b o
 | .int _,_,b,o,hb,h=>rR
 | .bool,_,b,o,hb,h=>rR
 | .str,_,b,o,hb,h=>rR
 | .sl e,l,b,o,hb,h=>by
  obtain ⟨a,cap,h1,h2,h3⟩:=h;refine ⟨a,cap,by rw [cell_block hb];exact h1,h2,λhn=>?_⟩
  obtain ⟨b',o',h4,h5,h6⟩:=h3 hn;exact ⟨b',o',h4,hZ _ h5,λi d hd=>RD.keep hZ hw e d b' _ (hw b' h5)<|h6 i d hd⟩
 | .pair x y,d,b,o,hb,h=>by
  exact ⟨RD.keep hZ hw x d.1 b o hb h.1,RD.keep hZ hw y d.2 b _ hb h.2⟩
def RD.mono {Z Z':aC->Prop}{w w':aO}(hZ:∀b,Z b->Z' b) (hw:∀b,Z b->w'.heap[b]? =w.heap[b]?) (t:Ty) (d:t.D) (b o:aC) (hz:Z b) (h:RD Z w t d b o):RD Z' w' t d b o:=RD.keep hZ hw t d b o (hw b hz) h
structure Loc where
 (b o:aC)
 cap:bn
def aL1:q_ (Loc):=⟨⟩
instance:Inhabited Loc:=⟨⟨0,0,aj⟩⟩
inductive LV where
 |v (x:Value)
 |bl (b:Bool)
 |ki (k:IntKind) (n:Int)
 |own (k off:Nat)
 |agg (l:List LV)
 |tup (l:List LV)
 |fn (f:FuncId) (cap:List LV)
 |fb (f:FuncId) (fs:List LV)
 |xq (n:Nat) (f:Nat->LV)
 |xl (e:Ty) (l:List e.D)
 |os (k es off n:Nat)
 |op (k es i j:Nat)
 |om (k:Nat)
 |mp (kd:IntKind) (ks:List Int) (vs:List LV)
 |oc (k es off n c:Nat)
 |yld (k:Nat)
 |junk
def aD:q_ (List LV):=⟨⟩
def bq:q_ (List<|Nat×LV):=⟨⟩
def aMn:q_ (Option LV):=⟨⟩
def aMq:q_ (List<|List LV):=⟨⟩
mutual
def R (β:aC->aL1) (Z:aC->Prop) (w:aO):LV->aV->Prop
 | .v x,y=>y=x
 | .bl b,y=>y=.bool b
 | .ki k n,y=>y=ag k n
 | .own k off,y=>y=.pointer (ah ⟨(β k).b,off,aj⟩)
 | .agg l,y=>∃ys,y=.agg ys/\RL β Z w l ys.toList
 | .tup l,y=>∃ys,y=.tuple ys/\RL β Z w l ys.toList
 | .fn f cap,y=>∃ys,y=.func (.func f) #[] ys/\RL β Z w cap ys.toList
 | .fb f cap,y=>∃ys,y=.func (.func f) ys #[]/\RL β Z w cap ys.toList
 | .xq n f,y=>∃b off,y=.pointer (ah ⟨b,off,aj⟩)/\Z b/\∀j,j<n->∃z,w.cell? ⟨b,off+j,aj⟩=ah z/\R β Z w (f j) z
 | .xl e l,y=>∃a cap,y=.slice a (M l) cap/\M l<=cap/\(0<M l->∃b off,a=ah ⟨b,off,aj⟩/\Z b/\∀(i:aC) (d:e.D),l[i]? =ah d->RD Z w e d b (off+i*e.n))
 | .os k es off n,y=>match (β k).cap with
  |none=>n=0/\off=0/\y=.slice aj 0 0
  |some c=>off+n<=c/\∃a,y=.slice (ah a) n (c-off)/\(0<c-off->a=⟨(β k).b,(β k).o+off*es,aj⟩)
 | .op k es i j,y=>(β k).cap≠aj/\y=.pointer (ah ⟨(β k).b,(β k).o+i*es+j,aj⟩)
 | .om k,y=>y=.map (ah (β k).b)
 | .mp kd ks vs,y=>∃r es clock,y=.map (ah r)/\Z r/\w.heap[r]? =ah (.map es clock)/\es.toList.map (·.key)=ks.map (.int kd)/\RL β Z w vs (es.toList.map (·.val))
 | .oc k es off n c,y=>off+n<=c/\∃a,y=.slice (ah a) n (c-off)/\(0<c-off->a=⟨(β k).b,off*es,aj⟩)
 | .yld k,y=>y=.func (.yield (β k).b) #[] #[]
 | .junk,_=>True
def RL (β:aC->aL1) (Z:aC->Prop) (w:aO):aD->aT->Prop
 | [],ys=>ys=[]
 |x::xs,ys=>∃y zs,ys=y::zs/\R β Z w x y/\RL β Z w xs zs
end
/-Which own blocks a value names:all below n. -/
mutual
def okV (n:aC):LV->Prop
 | .v _=>True
 | .bl _=>True
 | .ki _ _=>True
 | .own k _=>k<n
 | .agg l=>okL n l
 | .tup l=>okL n l
 | .fn _ cap=>okL n cap
 | .fb _ cap=>okL n cap
 | .xq _ f=>∀j,okV 0 (f j)
 | .xl _ _=>True
 | .os k _ _ _=>k<n
 | .op k _ _ _=>k<n
 | .om k=>k<n
 | .mp _ _ vs=>okL n vs
 | .oc k _ _ _ _=>k<n
 | .yld k=>k<n
 | .junk=>True
def okL (n:aC):aD->Prop
 | []=>True
 |x::xs=>okV n x/\okL n xs
end
mutual
def okV.mono {n m:aC}(h:n<=m):∀(x:LV),okV n x->okV m x
 | .v _,_=>trivial
 | .bl _,_=>trivial
 | .ki _ _,_=>trivial
 | .own k _,hk=>Qf
 | .agg l,hk=>dM
 | .tup l,hk=>dM
 | .fn _ l,hk=>dM
 | .fb _ l,hk=>dM
 | .xq _ f,hk=>by simp only [okV] at*;exact hk
 | .xl _ _,_=>trivial
 | .os k _ _ _,hk=>Qf
 | .op k _ _ _,hk=>Qf
 | .om k,hk=>Qf
 | .mp _ _ vs,hk=>by simp only [okV] at*;exact okL.mono h vs hk
 | .oc k _ _ _ _,hk=>Qf
 | .yld k,hk=>Qf
 | .junk,_=>trivial
def okL.mono {n m:aC}(h:n<=m):∀(x:aD),okL n x->okL m x
 | [],_=>trivial
 |x::xs,hk=>by simp only [okL] at*;exact ⟨okV.mono h x hk.1,okL.mono h xs hk.2⟩
end
mutual
def R.mono {β β':aC->aL1}{Z Z':aC->Prop}{w w':aO}{n:aC}(hβ:∀k,k<n->β' k=β k) (hZ:∀b,Z b->Z' b) (hw:∀b,Z b->w'.heap[b]? =w.heap[b]?):
  ∀(x:LV) (y:aV),okV n x->R β Z w x y->R β' Z' w' x y
 | .v _,_,_,h=>h
 | .bl _,_,_,h=>h
 | .ki _ _,_,_,h=>h
 | .own k off,y,hk,h=>by simp only [R,okV] at*;rw [h,hβ k hk]
 | .agg l,y,hk,h=>by
  exact cW
 | .tup l,y,hk,h=>by
  exact cW
 | .fn f l,y,hk,h=>by
  exact cW
 | .fb f l,y,hk,h=>by
  exact cW
 | .xq n f,y,hk,h=>by
  simp only [R,okV] at*;obtain ⟨b,off,h1,hz,h2⟩:=h;refine ⟨b,off,h1,hZ b hz,λj hj=>?_⟩
  obtain ⟨z,h3,h4⟩:=h2 j hj;exact ⟨z,by rw [cell_block (hw b hz)];exact h3,R.mono hβ hZ hw (f j) z (okV.mono (K6 _) _ (hk j)) h4⟩
 | .xl e l,y,hk,h=>by
  simp only [R] at*;obtain ⟨a,cap,h1,h2,h3⟩:=h;refine ⟨a,cap,h1,h2,λhn=>?_⟩
  obtain ⟨b,off,h4,h5,h6⟩:=h3 hn;exact ⟨b,off,h4,hZ b h5,λi d hd=>RD.mono hZ hw e d b _ h5 (h6 i d hd)⟩
 | .os k es off n,y,hk,h=>W0
 | .op k es i j,y,hk,h=>W0
 | .om k,y,hk,h=>W0
 | .mp kd ks vs,y,hk,h=>by
  simp only [R,okV] at*;obtain ⟨r,es,clock,h1,h2,h3,h4,h5⟩:=h;exact ⟨r,es,clock,h1,hZ r h2,by rw [hw r h2];exact h3,h4,RL.mono hβ hZ hw vs _ hk h5⟩
 | .oc k es off n c,y,hk,h=>W0
 | .yld k,y,hk,h=>W0
 | .junk,_,_,_=>H0
def RL.mono {β β':aC->aL1}{Z Z':aC->Prop}{w w':aO}{n:aC}(hβ:∀k,k<n->β' k=β k) (hZ:∀b,Z b->Z' b) (hw:∀b,Z b->w'.heap[b]? =w.heap[b]?):
  ∀(x:aD) (y:aT),okL n x->RL β Z w x y->RL β' Z' w' x y
 | [],_,_,h=>aLE
 |x::xs,ys,hk,h=>by
  simp only [RL,okL] at*;obtain ⟨y,zs,h1,h2,h3⟩:=h;exact ⟨y,zs,h1,R.mono hβ hZ hw x y hk.1 h2,RL.mono hβ hZ hw xs zs hk.2 h3⟩
end
def encL:(t:Ty)->t.D->List LV
 | .int k,n=>[.v<|ag k n]
 | .bool,b=>[.v<|.bool b]
 | .str,s=>[.v<|.string s]
 | .sl e,l=>[.xl e l]
 | .pair a b,d=>encL a d.1++encL b d.2
def encL_length:∀(t:Ty) (d:t.D),M (encL t d)=t.n
 | .int _,_=>rfl
 | .bool,_=>rfl
 | .str,_=>rfl
 | .sl _,_=>rfl
 | .pair a b,d=>by simp only [encL,Av,Ty.n,encL_length a d.1,encL_length b d.2]
def encL_ok (n:aC):∀(t:Ty) (d:t.D),okL n (encL t d)
 | .int _,_=>⟨ak,ak⟩
 | .bool,_=>⟨ak,ak⟩
 | .str,_=>⟨ak,ak⟩
 | .sl _,_=>⟨ak,ak⟩
 | .pair a b,d=>by
  have app:∀(l1 l2:aD),okL n l1->okL n l2->okL n (l1++l2):=by
   intro l1
   induction l1 with
   |nil=>intro l2 _ h;exact h
   |cons x xs ih=>intro l2 h1 h2;exact ⟨h1.1,ih l2 h1.2 h2⟩
  simp only [encL];exact app _ _ (encL_ok n a d.1)<|encL_ok n b d.2
def encL_R {β:aC->aL1}{Z:aC->Prop}{w:aO}:∀(t:Ty) (d:t.D) (b o:aC),RD Z w t d b o->∀(j:aC) (x:LV),(encL t d)[j]? =ah x->∃z,w.cell? ⟨b,o+j,aj⟩=ah z/\R β Z w x z
 | .int k,n,b,o,h,j,x,hx=>by
  exact qj
 | .bool,n,b,o,h,j,x,hx=>by
  exact qj
 | .str,n,b,o,h,j,x,hx=>by
  exact qj
 | .sl e,l,b,o,h,j,x,hx=>by
  simp only [encL] at hx;cases j with
  |zero=>
   simp at hx;subst hx
   simp only [RD] at h;obtain ⟨a,cap,h1,h2,h3⟩:=h;exact ⟨_,h1,by simp only [R];exact ⟨a,cap,rfl,h2,h3⟩⟩
  |succ j=>simp at hx
 | .pair p q,d,b,o,h,j,x,hx=>by
  simp only [encL] at hx;simp only [RD] at h
  by_cases hj:j<p.n
  ·rw [FI (by rw [encL_length];exact hj)] at hx
   exact encL_R p d.1 b o h.1 j x hx
  ·rw [EK sH,encL_length] at hx
   obtain ⟨z,h1,h2⟩:=encL_R q d.2 b (o+p.n) h.2 (j-p.n) x hx;exact ⟨z,by rw [show o+j=o+p.n+(j-p.n) by omega];exact h1,h2⟩
def RL.length {β:aC->aL1}{Z:aC->Prop}{w:aO}:∀ {l:aD}{ys:aT},RL β Z w l ys->M ys=M l
 | [],ys,h=>by simp only [RL] at h;simp [h]
 |x::xs,ys,h=>by
  simp only [RL] at h;obtain ⟨y,zs,rfl,_,h3⟩:=h
  simp [RL.length h3]
def RL.get {β:aC->aL1}{Z:aC->Prop}{w:aO}:∀ {l:aD}{ys:aT}(i:aC) (x:LV),RL β Z w l ys->l[i]? =ah x->∃y,ys[i]? =ah y/\R β Z w x y
 | [],ys,i,x,_,hx=>by simp at hx
 |x0::xs,ys,i,x,h,hx=>by
  simp only [RL] at h;obtain ⟨y,zs,rfl,h2,h3⟩:=h;cases i with
  |zero=>simp at hx;subst hx;exact ⟨y,AH,h2⟩
  |succ i=>simp at hx;obtain ⟨y',h4,h5⟩:=RL.get i x h3 hx;exact ⟨y',by simpa using h4,h5⟩
def okL.get {n:aC}:∀ {l:aD}(i:aC) (x:LV),okL n l->l[i]? =ah x->okV n x
 | [],i,x,_,hx=>by simp at hx
 |x0::xs,i,x,h,hx=>by
  simp only [okL] at h;cases i with
  |zero=>simp at hx;subst hx;exact h.1
  |succ i=>simp at hx;exact okL.get i x h.2 hx
def RL.of_get {β:aC->aL1}{Z:aC->Prop}{w:aO}:∀ {l:aD}{ys:aT},M ys=M l->(∀(i:aC) (x:LV),l[i]? =ah x->∃y,ys[i]? =ah y/\R β Z w x y)->RL β Z w l ys
 | [],ys,hl,_=>by simp only [RL];exact K4.1 hl
 |x::xs,[],hl,_=>W5
 |x::xs,y::ys,hl,h=>by
  simp only [RL];refine ⟨y,ys,rfl,?_,RL.of_get dh λi x' hx=>?_⟩
  ·obtain ⟨y',h1,h2⟩:=h 0 x AH;simp at h1;subst h1;exact h2
  ·obtain ⟨y',h1,h2⟩:=h (i+1) x' su;exact ⟨y',by simpa using h1,h2⟩
def okL.of_get {n:aC}:∀ {l:aD},(∀(i:aC) (x:LV),l[i]? =ah x->okV n x)->okL n l
 | [],_=>trivial
 |x::xs,h=>by simp only [okL];exact ⟨h 0 x AH,okL.of_get λi x' hx=>h (i+1) x' su⟩
inductive T (α:Type) where
 |ok (x:α)
 |br (b:Bool) (t e:T α)
 |req (p:Prop) (t:T α)
 |no
def T.rv {β:Type}(x:LV) (t:T β):T β:=.req (x=x) t
def T.rl {α β:Type}(l:List α) (t:T β):T β:=.req (0=0/\M l=M l) t
def T.bind {α β:Type}(k:α->T β):T α->T β
 | .ok x=>k x
 | .br b t e=> .br b (t.bind k) (e.bind k)
 | .req p t=> .req p (t.bind k)
 | .no=> .no
def T.all {α:Type}(K:α->Prop):T α->Prop
 | .ok x=>K x
 | .br b t e=>(b=U->t.all K)/\(b=X->e.all K)
 | .req p t=>p/\t.all K
 | .no=>False
def T.all_bind {α β:Type}{k:α->T β}{K:β->Prop}:∀ {t:T α},(t.bind k).all K↔t.all (λx=>(k x).all K)
 | .ok _=>Iff.rfl
 | .br b t e=>by simp only [T.bind,T.all];rw [T.all_bind,T.all_bind]
 | .req p t=>by simp only [T.bind,T.all];rw [T.all_bind]
 | .no=>Iff.rfl
def T.all_mono {α:Type}{K K':α->Prop}(h:∀x,K x->K' x):∀ {t:T α},t.all K->t.all K'
 | .ok _,hh=>h _ hh
 | .br b t e,hh=>⟨λhb=>T.all_mono h<|hh.1 hb,λhb=>T.all_mono h<|hh.2 hb⟩
 | .req p t,hh=>⟨hh.1,T.all_mono h hh.2⟩
 | .no,hh=>hh
def pureRun {α:Type}(P:aR):Sem α->Option α
 | .pure a=>ah a
 | .program k=>pureRun P (k P)
 | .mark _ k=>pureRun P k
 |_=>aj
def pureRun_run {α:Type}{P:aR}(w:aO):∀ {s:Sem α}{a:α},pureRun P s=ah a->s.run P w=.ok a w
 | .pure _,_,h=>by simp only [pureRun,Ac] at h;subst h;rfl
 | .program k,_,h=>by simp only [pureRun] at h;exact pureRun_run w (s:=k P) h
 | .mark _ k,_,h=>by simp only [pureRun] at h;exact pureRun_run w (s:=k) h
 | .load ..,_,h| .store ..,_,h| .new ..,_,h| .shape ..,_,h| .freeze ..,_,h| .frozen ..,_,h| .getObj ..,_,h| .setObj ..,_,h| .choose ..,_,h| .sys ..,_,h| .halt ..,_,h=>by simp [pureRun] at h
inductive Ex where
 |normal
 |exit (n:Nat)
 |ret
def aMt:q_ (List Ex):=⟨⟩
inductive LS where
 |ready
 |busy
 |done (x:Ex)
inductive BK where
 |cl
 |vec (e:Ty) (l:List e.D)
 |mp (kd:IntKind) (ks:List Int) (vs:List LV)
 |lrec (ps:Array Tmp) (asg body:Code) (st:LS)
 |st (e:Ty) (l:List e.D)
 |dead
structure Blk where
 c:aD
 t:aS
 k:BK
 p:aL
def aE:q_ (List Blk):=⟨⟩
def bx:q_ (Blk):=⟨⟩
def aMa:q_ (Option Blk):=⟨⟩
def Blk.isCl (b:bx):aL:=
 match b.k with
 | .cl=>U
 |_=>X
abbrev Globs:=Nat->Option (Nat×(Nat->aV))
def bb:q_ (Globs):=⟨⟩
abbrev Specs:=FuncId->Option (List LV->T LV)
def aLY:q_ (Specs):=⟨⟩
def pl:LV->Option Value
 | .v x=>ah x
 | .bl b=>ah (.bool b)
 | .ki k n=>ah (ag k n)
 | .fn f []=>ah (.func (.func f) #[] #[])
 |_=>aj
def plL:aD->Option (List Value)
 | []=>ah []
 |x::xs=>match pl x,plL xs with
  |some y,ah ys=>ah (y::ys)
  |_,_=>aj
def norm:LV->LV
 | .bl b=> .v (.bool b)
 | .ki k n=> .v (ag k n)
 |x=>x
def mkAgg (l:aD):LV:=match plL l with|some ys=> .v (.agg ys.toArray) |none=> .agg<|l.map norm
def mkTup (l:aD):LV:=match plL l with|some ys=> .v (.tuple ys.toArray) |none=> .tup<|l.map norm
def oneB:aV->Bool
 | .agg _=>X
 | .tuple _=>X
 |_=>U
def isCell:LV->Bool
 | .v x=>oneB x
 | .agg _=>X
 | .tup _=>X
 | .junk=>X
 |_=>U
def cellsL:LV->Option (List LV)
 | .v x=>if x.cells.toList.all oneB then ah (x.cells.toList.map .v) else aj
 | .agg l=>if l.all isCell then ah l else aj
 | .tup _=>aj
 | .junk=>aj
 |x=>ah [x]
def sizeT (P:aR) (t:aS):bn:=(P.info? t).map (·.size)
def zeroT (P:aR) (t:aS):aL7:=(P.info? t).bind (·.zero)
def aggT (P:aR) (t:aS):Option Bool:=(P.underlying t).map fun| .struct _=>U| .array _ _=>U|_=>X
def evalL (G:bb) (F:aD):aL2->LV
 | .tmp t=>F.getD t .junk
 | .const x=>match x with| .bool b=> .bl b| ag k n=> .ki k n|y=> .v y
 | .global g=>match G g with|some (n,f)=> .xq n (λj=> .v<|f j) |none=> .junk
 | .func f=> .fn f []
def setAt (l:aD) (off:aC) (cs:aD):aD:=l.take off++cs++l.drop (off+M cs)
def decI (k:aL5):LV->Option Int
 | .v (.int k' n)=>if k'=k then ah n else aj
 | .ki k' n=>if k'=k then ah n else aj
 |_=>aj
def decB:LV->Option Bool
 | .v (.bool b)=>ah b
 | .bl b=>ah b
 |_=>aj
def decS:LV->Option ByteArray
 | .v (.string s)=>ah s
 |_=>aj
def tyEq:(a b:Ty)->Option (PLift<|a=b)
 | .int k,.int k'=>if h:k=k' then ah ⟨Qo⟩ else aj
 | .bool,.bool=>ah ⟨rfl⟩
 | .str,.str=>ah ⟨rfl⟩
 | .sl x,.sl y=>match tyEq x y with
  |some ⟨h⟩=>ah ⟨Qo⟩
  |none=>aj
 | .pair x y,.pair x' y'=>match tyEq x x',tyEq y y' with
  |some ⟨h⟩,ah ⟨h'⟩=>ah ⟨by rw [h,h']⟩
  |_,_=>aj
 |_,_=>aj
def castL {a b:Ty}(h:a=b) (l:List a.D):List b.D:=h▸l
def decX (e:Ty):LV->Option (List e.D)
 | .xl e' l=>match tyEq e' e with
  |some ⟨h⟩=>ah (castL h l)
  |none=>aj
 | .v (.slice aj 0 0)=>ah []
 |_=>aj
def hd1 {α:Type}(f:LV->Option α):aD->Option α
 | [x]=>f x
 |_=>aj
def decL:(t:Ty)->aD->Option t.D
 | .int k,l=>hd1 (decI k) l
 | .bool,l=>hd1 decB l
 | .str,l=>hd1 decS l
 | .sl e,l=>hd1 (decX e) l
 | .pair a b,l=>match decL a (l.take a.n),decL b (l.drop a.n) with
  |some x,ah y=>ah (x,y)
  |_,_=>aj
def loadL (P:aR) (H:aE) (t:aS) (x:LV):T LV:=
 match aggT P t,sizeT P t with
 | some U,ah n=>
  match x with
  | .own k off=>match H[k]? with
   |some b=>if b.isCl=U/\off+n<=M b.c then .ok (mkAgg<|(b.c.drop off).take n) else .no
   |none=> .no
  | .xq m f=>if n<=m then .ok (mkAgg<|(au n).map f) else .no
  | .op k es i j=>match H[k]? with
   |some ⟨_,_,.vec e l,_⟩=>if e.n=es/\j+n<=es then .req (i<M l) (.ok<|mkAgg<|((encL e<|l.getD i e.dflt).drop j).take n) else .no
   |_=> .no
  |_=> .no
 | some X,_=>
  match x with
  | .own k off=>match H[k]? with
   |some b=>if b.isCl=U then (match b.c[off]? with
    |some y=> .ok y
    |none=> .no) else .no
   |none=> .no
  | .xq m f=>if 0<m then .ok (f 0) else .no
  | .op k es i j=>match H[k]? with
   |some ⟨_,_,.vec e l,_⟩=>if e.n=es then .req (i<M l) (match (encL e<|l.getD i e.dflt)[j]? with
    |some y=> .ok y
    |none=> .no) else .no
   |_=> .no
  |_=> .no
 |_,_=> .no
def storeL (P:aR) (H:aE) (t:aS) (x y:LV):T (List Blk):=
 match sizeT P t,cellsL y with
 | some n,ah cs=>match x with
  | .own k off=>match H[k]? with
   |some b=>if b.isCl=U/\b.p=X/\M cs=n/\off+n<=M b.c then .ok (H.set k ⟨setAt b.c off cs,b.t,b.k,b.p⟩) else .no
   |none=> .no
  | .op k es i j=>match H[k]? with
   |some ⟨_,bt,.vec e l,X⟩=>if e.n=es/\M cs=n/\j+n<=es then .req (i<M l) (match decL e (setAt (encL e<|l.getD i e.dflt) j cs) with
    |some d=> .ok (H.set k ⟨[],bt,.vec e<|l.set i d,X⟩)
    |none=> .no) else .no
   |_=> .no
  |_=> .no
 |_,_=> .no
def fieldL (P:aR) (s:aS) (x:LV) (i:aC):T LV:=
 match P.underlying s with
 | some (.struct fs)=>match fs[i]? with
  | some f=>match sizeT P f.type with
   |some (m+1)=>match x with
    | .own k off=> .ok (.own k<|off+f.offset)
    | .op k es i j=> .ok (.op k es i<|j+f.offset)
    | .xq n g=>if f.offset+(m+1)<=n then .ok (.xq (n-f.offset) λj=>g<|f.offset+j) else .no
    |_=> .no
   |_=> .no
  |none=> .no
 |_=> .no
def fldL (P:aR) (t:aS) (l:aD) (i:aC):T LV:=
 match P.underlying t with
 | some (.struct fs)=>match fs[i]? with
  | some f=>match aggT P f.type,sizeT P f.type with
   |some U,ah n=>if f.offset+n<=M l then .ok (mkAgg<|(l.drop f.offset).take n) else .no
   |some X,_=>match l[f.offset]? with
    |some y=> .ok y
    |none=> .no
   |_,_=> .no
  |none=> .no
 |_=> .no
def aggC:LV->Option (List LV)
 | .agg l=>ah l
 | .v (.agg ys)=>ah (ys.toList.map .v)
 |_=>aj
def idxL (P:aR) (t:aS) (l:aD) (i:LV):T LV:=
 match P.underlying t,i with
 |some (.array len e),.ki _ j=>match aggT P e,sizeT P e,l[j.toNat]? with
  |some X,ah 1,ah y=>if 0<=j/\j<(len:Y) then .ok y else .no
  |_,_,_=> .no
 |_,_=> .no
def chain (n:Y) (g:aC->LV):aC->aC->T LV
 |0,_=> .no
 |m+1,j=> .br (n==(j:Y)) (.ok<|g j)<|chain n g m<|j+1
def isKi:LV->Bool
 | .ki _ _=>U
 |_=>X
def addN:aC->aC->Nat
 |0,n=>n
 |m+1,n=>m+1+n
def addN_eq:∀(m n:aC),addN m n=m+n
 |0,n=>by simp [addN]
 |m+1,n=>rfl
def indexL (P:aR) (t:aS) (x:LV) (c:aL) (i:LV):T LV:=
 match pl i with
 | some (.int _ n)=>match P.underlying t with
  | some (.array len e)=>match sizeT P e with
   |some (m+1)=>match x with
    | .op k es i j=>if c then (if 0<=n/\n<len then .ok (.op k es i<|j+n.toNat*(m+1)) else .no) else chain n (λq=> .op k es i<|j+q*(m+1)) len 0
    | .own k off=>if c then (if 0<=n/\n<len then .ok (.own k<|off+n.toNat*(m+1)) else .no) else chain n (λj=> .own k<|off+j*(m+1)) len 0
    | .xq q g=>if len*(m+1)<=q then (if c then (if 0<=n/\n<len then .ok (.xq (m+1) λj=>g<|n.toNat*(m+1)+j) else .no) else if len=3 then chain n (λi=> .xq (m+1) λj=>g<|i*(m+1)+j) len 0 else .req (0<=n/\n<(len:Y)) (.ok<|.xq (m+1) λj=>g<|n.toNat*(m+1)+j)) else .no
    |_=> .no
   |_=> .no
  |some (.slice e)=>match sizeT P e,x with
   |some (m+1),.xl e' l=>if e'.n=m+1 then .req (0<=n/\n<(M l:Y)) (.ok<|.xq (m+1) λj=>(encL e'<|gx l n).getD j .junk) else .no
   |some (m+1),.os k es off len=>if es=m+1 then .req (0<=n/\n<(len:Y)) (.ok<|.op k es (addN off n.toNat) 0) else .no
   |some (m+1),.oc k es off len cp=>if es=m+1 then (if c then (if 0<=n/\n<(len:Y) then .ok (.own k<|(off+n.toNat)*(m+1)) else .no) else chain n (λj=> .own k<|(off+j)*(m+1)) len 0) else .no
   |_,_=> .no
  |_=> .no
 |_=> .no
def fillL (place:aC->aMk) (cells:aD):bq->Option (List LV)
 | []=>ah cells
 |(i,x)::rest=>match place i,cellsL x with
  |some (off,size),ah cs=>if M cs=size/\off+size<=M cells then fillL place (setAt cells off cs) rest else aj
  |_,_=>aj
def placeT (P:aR) (t:aS):Option (Nat->Option (Nat×Nat)):=
 match P.underlying t with
 |some (.struct fields)=>(fields.toList.mapM λf=>(P.info? f.type).map λi=>(f.offset,i.size)).map λps=>λi=>ps.toArray[i]?
 |some (.array _ e)=>(P.info? e).map λie=>λi=>ah (i*ie.size,ie.size)
 |_=>aj
def buildL (P:aR) (t:aS) (parts:bq):T LV:=
 match zeroT P t,placeT P t with
 |some z,ah pf=>match fillL pf (z.cells.toList.map .v) parts with
  |some cs=> .ok (if parts.any (λq=>isKi q.2) then .agg cs else mkAgg cs)
  |none=> .no
 |_,_=> .no
def evalN (G:bb) (F:aD):aL2->LV
 | .const x=>norm (evalL G F<|.const x)
 |o=>evalL G F o
def toX (H:aE):aC->LV->LV
 |0,_=> .junk
 |d+1,.own k off=>match H[k]? with
  |some b=>if b.isCl then .xq (M b.c-off) (λj=>toX H d<|b.c.getD (off+j) .junk) else .junk
  |none=> .junk
 |_+1,.os k es off n=>match H[k]? with
  |some ⟨_,_,.vec e l,_⟩=>if e.n=es then .xl e ((l.drop off).take n) else .junk
  |_=> .junk
 |_+1,.op k es i j=>match H[k]? with
  |some ⟨_,_,.vec e l,_⟩=>if e.n=es then .xq (es-j) (λq=>(encL e<|l.getD i e.dflt).getD (j+q) .junk) else .junk
  |_=> .junk
 |d+1,.om k=>match H[k]? with
  |some ⟨_,_,.mp kd ks vs,_⟩=> .mp kd ks (vs.map<|toX H d)
  |_=> .junk
 |_+1,.v x=> .v x
 |_+1,.bl x=> .v (.bool x)
 |_+1,.ki k n=> .v (ag k n)
 |d+1,.agg l=> .agg (l.map<|toX H d)
 |d+1,.tup l=> .tup (l.map<|toX H d)
 |d+1,.fn f l=> .fn f (l.map<|toX H d)
 |d+1,.fb f l=> .fb f (l.map<|toX H d)
 |_+1,.xq n f=> .xq n f
 |_+1,.xl e l=> .xl e l
 |d+1,.mp kd ks vs=> .mp kd ks (vs.map<|toX H d)
 |_+1,.oc ..=> .junk
 |_+1,.yld _=> .junk
 |_+1,.junk=> .junk
def gseq {α:Type}(g:α->T Unit):List α->T Unit
 | []=> .ok ()
 |x::xs=>(g x).bind λ_=>gseq g xs
def guardX (H:aE):aC->LV->T Unit
 |0,_=> .ok ()
 |d+1,.own k _=>match H[k]? with
  |some b=>gseq (guardX H d) b.c
  |none=> .ok ()
 |_+1,.os k _ off n=>match H[k]? with
  |some ⟨_,_,.vec _ l,_⟩=> .req (off+n<=M l) (.ok ())
  |_=> .ok ()
 |_+1,.op k _ i _=>match H[k]? with
  |some ⟨_,_,.vec _ l,_⟩=> .req (i<M l) (.ok ())
  |_=> .ok ()
 |d+1,.om k=>match H[k]? with
  |some ⟨_,_,.mp _ _ vs,_⟩=>gseq (guardX H d) vs
  |_=> .ok ()
 |d+1,.agg l=>gseq (guardX H d) l
 |d+1,.tup l=>gseq (guardX H d) l
 |d+1,.fn _ l=>gseq (guardX H d) l
 |d+1,.fb _ l=>gseq (guardX H d) l
 |d+1,.mp _ _ l=>gseq (guardX H d) l
 |_+1,_=> .ok ()
mutual
def noOwn:LV->Bool
 | .own _ _=>X
 | .os ..=>X
 | .op ..=>X
 | .om _=>X
 | .oc ..=>X
 | .yld _=>X
 | .agg l=>noOwnL l
 | .tup l=>noOwnL l
 | .fn _ l=>noOwnL l
 | .fb _ l=>noOwnL l
 | .mp _ _ l=>noOwnL l
 |_=>U
def noOwnL:aD->Bool
 | []=>U
 |x::xs=>noOwn x&&noOwnL xs
end
/-Which own blocks a value names. -/
mutual
def owns:LV->List Nat
 | .own k _=>[k]
 | .os k _ _ _=>[k]
 | .op k _ _ _=>[k]
 | .om k=>[k]
 | .oc k _ _ _ _=>[k]
 | .yld k=>[k]
 | .agg l=>ownsL l
 | .tup l=>ownsL l
 | .fn _ l=>ownsL l
 | .fb _ l=>ownsL l
 | .mp _ _ l=>ownsL l
 |_=>[]
def ownsL:aD->List Nat
 | []=>[]
 |x::xs=>owns x++ownsL xs
end
def Blk.owns (b:bx):aH:=ownsL b.c++(match b.k with| .mp _ _ vs=>ownsL vs|_=>[])
def reach (H:aE):aC->aH->aH->List Nat
 |0,_,acc=>acc
 |_+1,[],acc=>acc
 |d+1,k::ks,acc=>if acc.contains k then reach H d ks acc else reach H d (ks++(match H[k]? with|some b=>b.owns|none=>[])) (acc++[k])
def closedB (H:aE) (ks:aH) (l:aD):aL:=
 (ownsL l).all ks.contains&&ks.all (λk=>match H[k]? with|some b=>b.owns.all ks.contains|none=>X)
def pubGo (ks:aH):aC->aE->List Blk
 |_,[]=>[]
 |k,b::bs=>(if ks.contains k then ⟨b.c,b.t,b.k,U⟩ else b)::pubGo ks (k+1) bs
def isPl (x:LV):aL:=(pl x).isSome
def onlyPl:T LV->T LV
 | .ok x=>if isPl x then .ok x else .no
 | .br b t e=> .br b (onlyPl t) (onlyPl e)
 | .req p t=> .req p (onlyPl t)
 | .no=> .no
def pickL (c a b:LV):T LV:=
 match c with
 | .bl U=> .ok a
 | .bl X=> .ok b
 | .v (.bool g)=>match norm a,norm b with
  | .v (ag k n),.v (.int k' m)=>if k=k' then .ok (.v<|ag k (if g then n else m)) else .no
  | .v (.bool p),.v (.bool q)=> .ok (.v<|.bool (if g then p else q))
  |_,_=> .br g (.ok a) (.ok b)
 |_=> .no
def andL:bh->Bool
 | []=>U
 | [p]=>p
 |p::ps=>p&&andL ps
mutual
def eqV (P:aR):aC->aS->aV->aV->Option Bool
 |0,_,_,_=>aj
 |d+1,t,x,y=>match P.underlying t,x,y with
  |some (.int _),ag k a,.int k' b=>if k=k' then ah (a==b) else aj
  |some .bool,.bool a,.bool b=>ah (a==b)
  |some .string,.string a,.string b=>ah (a==b)
  |some (.struct fs),.agg xs,.agg ys=>if P.stoodInHeld t then aj else (eqFs P d xs ys fs.toList).map andL
  |_,_,_=>aj
def eqFs (P:aR):aC->aW->aW->aMr->Option (List Bool)
 |_,_,_,[]=>ah []
 |0,_,_,_::_=>aj
 | d+1,xs,ys,f::fs=>if f.name= "_" then aj else match pureRun P (part f.type xs f.offset),pureRun P (part f.type ys f.offset) with
  |some a,ah b=>match eqV P d f.type a b,eqFs P d xs ys fs with
   |some p,ah ps=>ah (p::ps)
   |_,_=>aj
  |_,_=>aj
end
def isEqOp:BinOp->Option Bool
 | .eql=>ah X
 | .neq=>ah U
 |_=>aj
def eqArm (P:aR) (o:Op) (e:aL2->aV):Option (Option Value):=
 match o with
 | .binOp op t x y _=>match isEqOp op with
  | some neg=>match e x,e y with
   | .agg xs,.agg ys=>ah (match pureRun P (eqGuard op t x y (.agg xs)<|.agg ys),eqV P 100 t (.agg xs) (.agg ys) with
    |some _,ah b=>ah (.bool (match neg with|true=>!b|false=>b))
    |_,_=>aj)
   |_,_=>aj
  |none=>aj
 |_=>aj
def genV (P:aR) (o:aU) (e:aL2->aV):aL7:=
 match eqArm P o.op e with
 |some r=>r
 |none=>match pureRun P (execOp e o) with
  |some (.value y)=>ah y
  |_=>aj
def isKn:LV->Bool
 | .ki _ _=>U
 | .bl _=>U
 | .v (.slice aj _ _)=>U
 |_=>X
def kn:aV->LV
 | ag k n=> .ki k n
 | .bool b=> .bl b
 |y=> .v y
def genL (P:aR) (G:bb) (F:aD) (o:aU):T LV:=
 if o.op.operands.toList.all (λx=>isPl<|evalL G F x) then
  match genV P o (λx=>(pl<|evalL G F x).getD undef) with
  |some y=> .ok (if o.op.operands.toList.all (λx=>isKn<|evalL G F x) then kn y else .v y)
  |none=> .no
 else .no
def tyFs (r:aS->Option Ty):bu->Option Ty
 | []=>aj
 | [t]=>r t
 |t::ts=>match r t,tyFs r ts with
  |some a,ah b=>ah (.pair a b)
  |_,_=>aj
def tyOf (P:aR):aC->aS->Option Ty
 |0,_=>aj
 |m+1,t=>match P.underlying t with
  |some (.int k)=>ah (.int k)
  |some .bool=>ah .bool
  |some .string=>ah .str
  |some (.struct fs)=>tyFs (tyOf P m) (fs.toList.map (·.type))
  |some (.array n e)=>tyFs (tyOf P m) (aq n e)
  |some (.slice e)=>(tyOf P m e).map .sl
  |_=>aj
def decN (e:Ty):aC->aD->Option (List e.D)
 |0,_=>ah []
 |n+1,cs=>match decL e (cs.take e.n),decN e n (cs.drop e.n) with
  |some d,ah r=>ah (d::r)
  |_,_=>aj
def litL (P:aR) (t:aS) (len:aC) (parts:bq):T LV:=
 match P.underlying t with
 |some (.slice e)=>match tyOf P 8 e,sizeT P e,zeroT P e with
  | some ty,ah m,ah z=>if ty.n=m/\z.cells.size=m/\0<len*m/\len*m<=2^24 then
    (match fillL (λi=>ah (i*m,m)) ((au<|len*m).map λi=> .v<|z.cells[i%z.cells.size]!) parts with
    |some cs=>match decN ty len cs with
     |some l=> .ok (.xl ty l)
     |none=> .no
    |none=> .no) else .no
  |_,_,_=> .no
 |_=> .no
def typedSl (P:aR) (t:aS):aL:=
 match P.underlying t with
 |some (.slice e)=>(tyOf P 8 e).isSome
 |_=>X
def litC (P:aR) (H:aE) (t:aS) (len:aC) (parts:bq):T (LV×List Blk):=
 match P.underlying t with
 |some (.slice e)=>match sizeT P e,zeroT P e with
  | some m,ah z=>if z.cells.size=m/\0<len*m/\len*m<=2^24 then
    (match fillL (λi=>ah (i*m,m)) ((au<|len*m).map λi=> .v<|z.cells[i%z.cells.size]!) parts with
    |some cs=> .ok (.oc (M H) m 0 len len,H++[⟨cs,e,.cl,X⟩])
    |none=> .no) else .no
  |_,_=> .no
 |_=> .no
def litO (P:aR) (H:aE) (t:aS) (len:aC) (parts:bq):T (LV×List Blk):=
 if closedB H (reach H 64 (ownsL<|parts.map (·.2)) []) (parts.map (·.2)) then
  ((gseq (guardX H 6)<|parts.map (·.2)).bind λ_=>litL P t len<|parts.map λq=>(q.1,toX H 6 q.2)).bind λy=> .ok (y,pubGo (reach H 64 (ownsL<|parts.map (·.2)) []) 0 H)
 else .no
def srcOf (H:aE) (e:Ty):LV->T (List e.D)
 | .os k es off n=>match H[k]? with
  |some ⟨_,_,.vec e' l,_⟩=>if e'.n=es then (match tyEq e' e with
   |some ⟨h⟩=> .req (off+n<=M l) (.ok<|castL h<|(l.drop off).take n)
   |none=> .no) else .no
  |_=> .no
 |x=>match decX e x with
  |some l=> .ok l
  |none=> .no
def bytesT (P:aR) (t:aS):bn:=(P.info? t).map (·.bytes)
def elemT (P:aR) (t:aS):Option (TypeId×Ty×Nat×Nat):=
 match P.underlying t with
 |some (.slice e)=>match tyOf P 8 e,sizeT P e,bytesT P e with
  |some ty,ah m,ah by_=>if ty.n=m/\0<m then ah (e,ty,m,by_) else aj
  |_,_,_=>aj
 |_=>aj
def litV (P:aR) (H:aE) (t:aS) (len:aC) (parts:bq):T (LV×List Blk):=
 if closedB H (reach H 64 (ownsL<|parts.map (·.2)) []) (parts.map (·.2)) then
  ((gseq (guardX H 6)<|parts.map (·.2)).bind λ_=>litL P t len<|parts.map λq=>(q.1,toX H 6 q.2)).bind λy=>match P.underlying t,y with
   |some (.slice e),.xl ty l=> .ok (.os (M H) ty.n 0 len,pubGo (reach H 64 (ownsL<|parts.map (·.2)) []) 0 H++[⟨[],e,.vec ty l,X⟩])
   |_,_=> .no
 else .no
def rowLit (Γ:aLY) (t:aS):aL:=(Γ<|1000000+t).isSome
def makeL (P:aR) (H:aE) (t:aS) (n c:LV):T (LV×List Blk):=
 match elemT P t,pl n,pl c with
 | some (e,ty,m,by_),ah (ag J n),ah (ag J c)=>match zeroT P e with
  |some z=>match decL ty (z.cells.toList.map .v) with
   |some d=>if z.cells.size=m then .req (0<=n/\n<=c/\by_*c<=2^48/\c<2^63) (.ok (.os (M H) m 0 n.toNat,H++[⟨[],e,.vec ty<|aq n.toNat d,X⟩])) else .no
   |none=> .no
  |none=> .no
 |_,_,_=> .no
def emptyL (P:aR) (H:aE) (t:aS):T (LV×List Blk):=
 match elemT P t with
 |some (e,ty,m,_)=> .ok (.os (M H) m 0 0,H++[⟨[],e,.vec ty [],X⟩])
 |none=> .no
def appendL (P:aR) (H:aE) (t tx:aS) (x y:LV):T (LV×List Blk):=
 match elemT P t with
 | some (e,ty,m,by_)=>match P.underlying tx,zeroT P e with
  | some (.slice _),ah z=>if z.cells.size=m then (srcOf H ty y).bind (λq=>match x with
    | .v (.slice aj 0 0)=> .req ((M q:Y)*by_<=2^47/\(M q:Y)<2^62) (.ok (.os (M H) m 0<|M q,H++[⟨[],e,.vec ty q,X⟩]))
    | .os k es off n=>match H[k]? with
     |some ⟨_,bt,.vec e' l,X⟩=>match tyEq e' ty with
      | some ⟨h⟩=>if es=m/\bt=e then .req (off+n=M l/\((n+M q:aC):Y)*by_<=2^47/\((n+M q:aC):Y)<2^62)
        (.ok (.os (M H) m 0<|n+M q,H.set k ⟨[],e,.dead,X⟩++[⟨[],e,.vec ty<|castL h (l.drop off)++q,X⟩])) else .no
      |none=> .no
     |_=> .no
    |_=> .no) else .no
  |_,_=> .no
 |none=> .no
def cpy {α:Type}(q l:List α):List α:=q++l.drop (M q)
def copyL (P:aR) (H:aE) (t tx:aS) (x y:LV):T (LV×List Blk):=
 match elemT P t,P.underlying tx with
 | some (_,ty,m,_),ah (.slice _)=>match x with
  | .os k es 0 n=>match H[k]? with
   |some ⟨c,bt,.vec e' l,X⟩=>match tyEq e' ty with
    |some ⟨h⟩=>if es=m then (srcOf H ty y).bind λq=> .req (n=M l/\M q<=n) (.ok (.v<|ag J (M q:Y),H.set k ⟨c,bt,.vec ty<|cpy q<|castL h l,X⟩)) else .no
    |none=> .no
   |_=> .no
  |_=> .no
 |_,_=> .no
def sliceL (P:aR) (t:aS) (x:LV) (lo hi:aMn):T LV:=
 match P.underlying t with
 | some (.slice e)=>match sizeT P e with
  | some (m+1)=>
   let b (o:aMn) (d:Y):Option Int:=match o with
    |none=>ah d
    |some y=>match pl y with
     |some (.int _ n)=>ah n
     |_=>aj
   match x with
   | .xl ty l=>match b lo 0,b hi (M l:Y) with
    |some i,ah j=>if ty.n=m+1 then .req (0<=i/\i<=j/\j<=(M l:Y)) (.ok<|.xl ty<|(l.drop i.toNat).take<|j.toNat-i.toNat) else .no
    |_,_=> .no
   | .os k es off n=>match b lo 0,b hi (n:Y) with
    |some i,ah j=>if es=m+1 then .req (0<=i/\i<=j/\j<=(n:Y)) (.ok<|.os k es (off+i.toNat)<|j.toNat-i.toNat) else .no
    |_,_=> .no
   |_=> .no
  |_=> .no
 |_=> .no
def slice3L (P:aR) (t:aS) (x:LV) (lo:aMn) (hi mx:LV):T LV:=
 match P.underlying t with
 | some (.slice e)=>match sizeT P e with
  | some (m+1)=>match x with
   | .xl ty l=>match (match lo with|none=>ah 0|some y=>match pl y with|some (.int _ n)=>ah n|_=>none:Option Int),pl hi,pl mx with
    |some i,ah (.int _ j),ah (.int _ q)=>if ty.n=m+1 then .req (0<=i/\i<=j/\j<=(M l:Y)/\q=j) (.ok<|.xl ty<|(l.drop i.toNat).take<|j.toNat-i.toNat) else .no
    |_,_,_=> .no
   |_=> .no
  |_=> .no
 |_=> .no
def lookChain (kd:aL5) (n:Y) (z:aV):aB->aD->T LV
 |k::ks,v::vs=> .br (n==k) (.ok v) (lookChain kd n z ks vs)
 |_,_=> .ok<|.v z
def keyV:(e:Ty)->e.D->Value
 | .int k,n=> ag k n
 | .str,s=> .string s
 | .bool,b=> .bool b
 | .sl _,_=>undef
 | .pair _ _,_=>undef
def keyD:(e:Ty)->aV->Option e.D
 | .int k,v=>match v with
  | .int k' n=>if k'=k then ah n else aj
  |_=>aj
 | .str,v=>match v with
  | .string s=>ah s
  |_=>aj
 |_,_=>aj
def memD:(e:Ty)->e.D->List e.D->Bool
 | .int _,x,l=>List.contains (α:=Int) l x
 | .str,x,l=>List.contains (α:=ByteArray) l x
 |_,_,_=>X
def setT (P:aR) (t:aS):Option Ty:=
 match P.underlying t with
 |some (.map kt et)=>match P.underlying et,P.underlying kt,zeroT P et with
  |some .bool,ah (.int k),ah (.bool X)=>ah (.int k)
  |some .bool,ah .string,ah (.bool X)=>ah .str
  |_,_,_=>aj
 |_=>aj
def lookS (P:aR) (t:aS) (e:Ty) (l:List e.D) (i:LV):T LV:=
 match setT P t,pl i with
 |some e',ah v=>match tyEq e' e,keyD e v with
  |some _,ah d=> .ok (.v<|.bool<|memD e d l)
  |_,_=> .no
 |_,_=> .no
def lookM (P:aR) (H:aE) (t:aS) (x i:LV):T LV:=
 match P.underlying t with
 | some (.map kt et)=>match P.underlying kt,zeroT P et,pl i with
  | some (.int kd),ah z,ah (.int kd' n)=>if kd'=kd/\oneB z=U then (match x with
   | .mp kd2 ks vs=>if kd2=kd/\M ks=M vs then lookChain kd n z ks vs else .no
   | .om k=>match H[k]? with
    |some ⟨_,_,.mp kd2 ks vs,_⟩=>if kd2=kd/\M ks=M vs then lookChain kd n z ks vs else .no
    |_=> .no
   |_=> .no) else .no
  |_,_,_=> .no
 |_=> .no
def lookChain2 (kd:aL5) (n:Y) (z:aV):aB->aD->T LV
 |k::ks,v::vs=> .br (n==k) (.ok<|.tup [norm v,.bl U]) (lookChain2 kd n z ks vs)
 |_,_=> .ok<|.tup [.v z,.bl X]
def lookM2 (P:aR) (H:aE) (t:aS) (x i:LV):T LV:=
 match P.underlying t with
 | some (.map kt et)=>match P.underlying kt,zeroT P et,pl i with
  | some (.int kd),ah z,ah (.int kd' n)=>if kd'=kd/\oneB z=U then (match x with
   | .mp kd2 ks vs=>if kd2=kd/\M ks=M vs then lookChain2 kd n z ks vs else .no
   | .om k=>match H[k]? with
    |some ⟨_,_,.mp kd2 ks vs,_⟩=>if kd2=kd/\M ks=M vs then lookChain2 kd n z ks vs else .no
    |_=> .no
   |_=> .no) else .no
  |_,_,_=> .no
 |_=> .no
def lookL (P:aR) (H:aE) (t:aS) (x i:LV):T LV:=
 match x with
 | .om k=>match H[k]? with
  |some ⟨_,_,.st e l,_⟩=>lookS P t e l i
  |_=>lookM P H t x i
 |_=>lookM P H t x i
def insM (P:aR) (H:aE) (t:aS) (x i y:LV):T (List Blk):=
 match P.underlying t with
 | some (.map kt _)=>match P.underlying kt,pl i,x with
  |some (.int kd),ah (.int kd' n),.om k=>match H[k]? with
   |some ⟨_,bt,.mp kd2 ks vs,X⟩=>if kd'=kd/\kd2=kd/\M ks=M vs/\ks.contains n=X then .ok (H.set k ⟨[],bt,.mp kd (ks++[n])<|vs++[y],X⟩) else .no
   |_=> .no
  |_,_,_=> .no
 |_=> .no
def insL (P:aR) (H:aE) (t:aS) (x i y:LV):T (List Blk):=
 match x with
 | .om k=>match H[k]? with
  | some ⟨_,bt,.st e l,X⟩=>match setT P t,pl i,y with
   |some e',ah v,.bl U=>match tyEq e' e,keyD e v with
    |some _,ah d=> .req (memD e d l=X) (.ok<|H.set k ⟨[],bt,.st e<|l++[d],X⟩)
    |_,_=> .no
   |_,_,_=> .no
  |_=>insM P H t x i y
 |_=>insM P H t x i y
def kindOf (P:aR) (t:aS):Option IntKind:=
 match P.underlying t with
 |some (.map kt _)=>match P.underlying kt with
  |some (.int kd)=>ah kd
  |_=>aj
 |_=>aj
def plainTy (P:aR):aC->aS->Bool
 |0,_=>X
 |m+1,t=>match P.underlying t with
  |some (.int _) |some .bool|some .string=>U
  |some (.struct fs)=>fs.toList.all (λf=>plainTy P m f.type)
  |some (.array _ e)=>plainTy P m e
  |some (.tuple ts)=>ts.toList.all (plainTy P m)
  |_=>X
def byI (s:bz) (n:Y):Y:=(((s[n.toNat]?).getD 0).toNat:Y)
def callG (P:aR) (Γ:aLY) (H:aE) (o:aU) (g:bg) (l:aD):T (LV×List Blk):=
 match P.funcs[g]? with
 | some fn=>if fn.body.isSome&&!(fn.name== "runtime.NumGoroutine") then
   match Γ g with
   |some S=>
    if noOwnL l then (S l).bind λy=> .ok (y,H)
    else if plainTy P 8 o.type then ((gseq (guardX H 6) l).bind λ_=>onlyPl<|S<|l.map<|toX H 6).bind λy=> .ok (y,H)
    else if closedB H (reach H 64 (ownsL l) []) l then ((gseq (guardX H 6) l).bind λ_=>S<|l.map<|toX H 6).bind λy=> .ok (y,pubGo (reach H 64 (ownsL l) []) 0 H) else .no
   |none=> .no
  else .no
 |none=> .no
def opx (P:aR) (G:bb) (Γ:aLY) (F:aD) (H:aE) (o:aU):T (LV×List Blk):=
 match o.op with
 | .select _ _=> .no
 | .move x=> .ok (evalL G F x,H)
 | .assign x=> .ok (evalL G F x,H)
 | .pick c a b=>(pickL (evalL G F c) (evalL G F a)<|evalL G F b).bind λy=> .ok (y,H)
 | .alloc t=>match zeroT P t with
  |some z=>match cellsL (.v z) with
   |some cs=> .ok (.own (M H) 0,H++[⟨cs,t,.cl,X⟩])
   |none=> .no
  |none=> .no
 | .box t x=>match cellsL (evalL G F x) with
  |some cs=> .ok (.own (M H) 0,H++[⟨cs,t,.cl,X⟩])
  |none=> .no
 | .load t x=>(loadL P H t<|evalL G F x).bind λy=> .ok (y,H)
 | .store t x y=>(storeL P H t (evalL G F x)<|evalL G F y).bind λH'=> .ok (.v undef,H')
 | .fieldAddr s x i=>(fieldL P s (evalL G F x) i).bind λy=> .ok (y,H)
 | .indexAddr t x i=>(indexL P t (evalL G F x) (isKi<|evalL G F i)<|evalL G F i).bind λy=> .ok (y,H)
 | .build t parts=>(buildL P t<|parts.toList.map λq=>(q.1,evalN G F q.2)).bind λy=> .ok (y,H)
 | .buildSlice t len parts=>if len=0 then (if parts.toList.isEmpty then emptyL P H t else .no) else if typedSl P t then (if rowLit Γ t then litV P H t len (parts.toList.map λq=>(q.1,evalL G F q.2)) else if noOwnL ((parts.toList.map λq=>(q.1,evalL G F q.2)).map (·.2)) then (litL P t len<|parts.toList.map λq=>(q.1,evalL G F q.2)).bind λy=> .ok (y,H) else litO P H t len (parts.toList.map λq=>(q.1,evalL G F q.2))) else litC P H t len (parts.toList.map λq=>(q.1,evalL G F q.2))
 | .makeSlice t n c=>makeL P H t (evalL G F n) (evalL G F c)
 | .slice t x lo hi aj=>match evalL G F x with
  | .v _=>(genL P G F o).bind λy=> .ok (y,H)
  |_=>(sliceL P t (evalL G F x) (lo.map<|evalL G F)<|hi.map<|evalL G F).bind λy=> .ok (y,H)
 | .slice t x lo (ah hi) (ah mx)=>match evalL G F x with
  | .v _=>(genL P G F o).bind λy=> .ok (y,H)
  |_=>(slice3L P t (evalL G F x) (lo.map<|evalL G F) (evalL G F hi)<|evalL G F mx).bind λy=> .ok (y,H)
 | .makeMap t aj=>match setT P t with
  |some e=> .ok (.om<|M H,H++[⟨[],t,.st e [],X⟩])
  |none=>match kindOf P t with
   |some kd=> .ok (.om<|M H,H++[⟨[],t,.mp kd [] [],X⟩])
   |none=> .no
 | .insert t m i x=>(insL P H t (evalL G F m) (evalL G F i)<|evalL G F x).bind λH'=> .ok (.v undef,H')
 | .mapUpdate t m i x=>(insL P H t (evalL G F m) (evalL G F i)<|evalL G F x).bind λH'=> .ok (.v undef,H')
 | .lookup t x i X=>(lookL P H t (evalL G F x)<|evalL G F i).bind λy=> .ok (y,H)
 | .lookup t x i U=>match evalL G F x with
  | .v _=>(genL P G F o).bind λy=> .ok (y,H)
  |_=>(lookM2 P H t (evalL G F x)<|evalL G F i).bind λy=> .ok (y,H)
 | .extract x i=>match evalL G F x with
  | .tup l=>match l[i]? with
   |some y=> .ok (y,H)
   |none=> .no
  |_=>(genL P G F o).bind λy=> .ok (y,H)
 | .field t x i=>match evalL G F x with
  | .agg l=>(fldL P t l i).bind λy=> .ok (y,H)
  |_=>(genL P G F o).bind λy=> .ok (y,H)
 | .makeFunc (.func f) first cap=>if first.toList.isEmpty then .ok (.fn f<|cap.toList.map<|evalL G F,H) else if cap.toList.isEmpty then .ok (.fb f<|first.toList.map<|evalL G F,H) else .no
 | .nilCheck x=>match evalL G F x with
  | .own k off=> .ok (.own k off,H)
  | .op k es i j=> .ok (.op k es i j,H)
  | .xq n f=> .ok (.xq n f,H)
  | .fn f l=> .ok (.fn f l,H)
  | .fb f l=> .ok (.fb f l,H)
  |_=>(genL P G F o).bind λy=> .ok (y,H)
 | .binOp .quo t x y _=>match pl (evalL G F x),pl (evalL G F y) with
  |some (ag k n),ah (.int k' m)=>if k=k' then .req (m≠0) (.ok (.v<|ag k<|k.wrap<|n.tdiv m,H)) else .no
  |_,_=> .no
 | .binOp .rem t x y _=>match pl (evalL G F x),pl (evalL G F y) with
  |some (ag k n),ah (.int k' m)=>if k=k' then .req (m≠0) (.ok (.v<|ag k<|n.tmod m,H)) else .no
  |_,_=> .no
 | .binOp .shl t x y _=>if isKi (evalL G F y) then (genL P G F o).bind λy=> .ok (y,H) else match pl (evalL G F x),pl (evalL G F y) with
  |some (ag k n),ah (.int _ m)=> .req (0<=m) (.ok (.v<|ag k<|k.wrap<|n*2^(min m.toNat k.bits),H))
  |_,_=> .no
 | .binOp .shr t x y _=>if isKi (evalL G F y) then (genL P G F o).bind λy=> .ok (y,H) else match pl (evalL G F x),pl (evalL G F y) with
  |some (ag k n),ah (.int _ m)=> .req (0<=m) (.ok (.v<|ag k<|n.fdiv<|2^(min m.toNat k.bits),H))
  |_,_=> .no
 | .index t x i=>match aggC (evalL G F x) with
  |some l=>(idxL P t l<|evalL G F i).bind λy=> .ok (y,H)
  |none=>match P.underlying t,pl<|evalL G F x,pl (evalL G F i) with
   |some .string,ah (.string s),ah (.int _ n)=> .req (0<=n/\n<(s.size:Y)) (.ok (.v<|ag aw<|byI s n,H))
   |_,_,_=> .no
 | .call {callee:=.value f,args,..}=>match evalL G F f with
  | .fn g cap=>callG P Γ H o g (args.toList.map (λx=>norm<|evalL G F x)++cap)
  | .fb g fs=>callG P Γ H o g (fs++args.toList.map (λx=>norm<|evalL G F x))
  |_=> .no
 | .call {callee:=.invoke ..,..}=> .no
 | .call {callee:=.builtin .append,args,argTypes}=>match args.toList.map (evalL G F),argTypes.toList with
  | [x,y],[t,tx]=>appendL P H t tx x y
  |_,_=> .no
 | .call {callee:=.builtin .copy,args,argTypes}=>match args.toList.map (evalL G F),argTypes.toList with
  | [x,y],[t,tx]=>copyL P H t tx x y
  |_,_=> .no
 | .call {callee:=.builtin .len,args,argTypes}=>match args.toList.map (evalL G F),(argTypes[0]?).bind P.underlying with
  | [.os _ _ _ n],ah (.slice _)=> .ok (.v<|ag J n,H)
  | [.xl _ l],ah (.slice _)=> .ok (.v<|ag J (M l:Y),H)
  | [.oc _ _ _ n _],ah (.slice _)=> .ok (.ki J n,H)
  |_,_=>(genL P G F o).bind λy=> .ok (y,H)
 |_=>(genL P G F o).bind λy=> .ok (y,H)
def setF (F:aD):bB->LV->List LV
 |some d,x=>F.set d x
 |none,_=>F
structure Hand where
 k:bg->aD->aE->T (LV×List Blk)
 y:aC->aD->aE->T (LV×List Blk)
def aMf:q_ (Hand):=⟨⟩
def noK:aMf:=⟨λ_ _ _=> .no,λ_ _ _=> .no⟩
def yldOf (G:bb) (F:aD) (o:aU):Option (Nat×List LV):=
 match o.op with
 | .call {callee:=.value f,args,..}=>match evalL G F f with
  | .yld k=>ah (k,args.toList.map λx=>norm<|evalL G F x)
  |_=>aj
 |_=>aj
def callOf (G:bb) (F:aD) (o:aU):Option (FuncId×List LV):=
 match o.op with
 | .call {callee:=.value f,args,..}=>match evalL G F f with
  | .fn g cap=>ah (g,args.toList.map (λx=>norm<|evalL G F x)++cap)
  | .fb g fs=>ah (g,fs++args.toList.map (λx=>norm<|evalL G F x))
  | .v (.func (.func g) ⟨[]⟩ ⟨[]⟩)=>ah (g,args.toList.map λx=>norm<|evalL G F x)
  |_=>aj
 |_=>aj
def opk (P:aR) (G:bb) (Γ:aLY) (K:aMf) (F:aD) (H:aE) (o:aU):T (LV×List Blk):=
 match callOf G F o with
 | some (g,l)=>match Γ g with
  |some _=>opx P G Γ F H o
  |none=>match P.funcs[g]? with
   |some fn=>if fn.body.isSome&&!(fn.name== "runtime.NumGoroutine") then K.k g l H else .no
   |none=> .no
 |none=>match yldOf G F o with
  |some (k,l)=>K.y k l H
  |none=>opx P G Γ F H o
def xlsOf (ty:Ty):aD->Option (List<|List ty.D)
 | []=>ah []
 | x::xs=>match x with
  | .xl e l=>match tyEq e ty,xlsOf ty xs with
   |some ⟨h⟩,ah r=>ah (castL h l::r)
   |_,_=>aj
  |_=>aj
def ixld (P:aR) (G:bb) (F:aD) (H:aE) (o o2:aU):Option (Int×Nat×LV):=
 if o.guard.isNone&&o2.guard.isNone then
  match o.op,o.dst,o2.op with
  | .indexAddr t x i,ah d,.load t2 (.tmp d2)=>
   if d2 =d/\d<M F/\aggT P t2=ah X then
    match P.underlying t,evalL G F x,evalL G F i with
    | some (.array len e),.own k off,.v (.int _ n)=>
     if sizeT P e=ah 1 then
      match H[k]? with
      | some b=>
       if b.isCl=U/\off+len<=M b.c then
        match (b.c.drop off).take len with
        | .xl ty l::rest=>match xlsOf ty (.xl ty l::rest) with
         |some ls=>ah (n,len,.xl ty<|ls.getD n.toNat [])
         |none=>aj
        |_=>aj
       else aj
      |none=>aj
     else aj
    |_,_,_=>aj
   else aj
  |_,_,_=>aj
 else aj
def seqx (P:aR) (G:bb) (Γ:aLY) (K:aMf) (ops:aJ):bw->aD->aE->T (List LV×List Blk)
 | [],F,H=> .ok (F,H)
 | o::os,F,H=>
  let go (F:aD):T (List LV×List Blk):=(opk P G Γ K F H o).bind λq=>seqx P G Γ K ops os (setF F o.dst q.1) q.2
  let pass (F:aD):T (List LV×List Blk):=seqx P G Γ K ops os (setF F o.dst<|.v undef) H
  match o.guard with
  | none=>match os with
   | []=>go F
   |o2::os2=>match ixld P G F H o o2 with
    |some (n,len,y)=> .req (0<=n/\n<(len:Y)) (seqx P G Γ K ops os2 (setF (setF F o.dst .junk) o2.dst y) H)
    |none=>go F
  | some (j,want)=>match (ops[j]?).bind (·.dst) with
   |some d=>match F.getD d .junk with
    | .bl b=>if b=want then go F else pass F
    | .v (.bool g)=>if want then .br g (go<|F.set d<|.bl U) (pass<|F.set d<|.bl X) else .br g (pass<|F.set d<|.bl U) (go<|F.set d<|.bl X)
    | .v (.tuple _)=>pass F
    |_=> .no
   |none=> .no
def nki:LV->LV
 | .ki k n=> .v (ag k n)
 |x=>x
def mergeV0 (b:aL):LV->LV->LV
 | .v (ag k n),.v (.int k' m)=>if k=k' then .v (ag k (if b then n else m)) else .junk
 | .bl U,.bl X=> .v (.bool b)
 | .bl X,.bl U=> .v (.bool !b)
 | .bl U,.bl U=> .bl U
 | .bl X,.bl X=> .bl X
 | .v (.bool p),.bl X=> .v (.bool<|b&&p)
 | .v (.bool p),.bl U=> .v (.bool (!b ||p))
 | .bl U,.v (.bool q)=> .v (.bool (b ||q))
 | .bl X,.v (.bool q)=> .v (.bool<|!b&&q)
 | .v (.bool p),.v (.bool q)=> .v (.bool (if b then p else q))
 |_,_=> .junk
def mergeV (b:aL) (x y:LV):LV:=mergeV0 b (nki x)<|nki y
def memFree (P:aR) (o:aU):aL:=
 match o.op with
 | .alloc _| .box ..| .store ..| .makeSlice ..| .makeMap ..| .insert ..| .mapUpdate ..=>X
 | .buildSlice ..=>X
 | .call {callee:=.builtin .append,..}=>X
 | .call {callee:=.builtin .copy,..}=>X
 | .call {callee:=.value _,..}=>plainTy P 8 o.type
 | .call {callee:=.invoke ..,..}=>plainTy P 8 o.type
 |_=>U
def memK (P:aR) (Γ:aLY) (o:aU):aL:=
 memFree P o&&(match o.op with
 | .call {callee:=.value (.func g),..}=>(Γ g).isSome
 | .call {callee:=.value _,..}=>X
 |_=>U)
def dsts (ops:bw):aH:=ops.filterMap (·.dst)
def mergeF (ds:aH) (b:aL) (F F1 F2:aD):aD:=(au<|M F).map λi=>if ds.contains i then mergeV b (F1.getD i .junk) (F2.getD i .junk) else F.getD i .junk
def fnX:LV->LV->Bool
 | .fn ..,.fn ..=>U
 | .fn ..,.v _=>U
 | .v _,.fn ..=>U
 |_,_=>X
def fnD (ds:aH) (F1 F2:aD):aL:=ds.any λd=>fnX (F1.getD d .junk)<|F2.getD d .junk
def mergeT (ds:aH) (F:aD) (H:aE):T (List LV×List Blk)->T (List LV×List Blk)
 | .ok x=> .ok x
 | .no=> .no
 | .req p t=> .req p (mergeT ds F H t)
 | .br b t e=>match mergeT ds F H t,mergeT ds F H e with
  | .ok x,.ok y=>if fnD ds x.1 y.1 then .br b (.ok x) (.ok y) else .ok (mergeF ds b F x.1 y.1,H)
  |t',e'=> .br b t' e'
def regx (P:aR) (G:bb) (Γ:aLY) (K:aMf) (ops:aJ) (F:aD) (H:aE):T (List LV×List Blk):=
 if ops.toList.all (memK P Γ) then mergeT (dsts ops.toList) F H (seqx P G Γ K ops ops.toList F H) else seqx P G Γ K ops ops.toList F H
def isSp (P:aR) (o:aU):aL:=
 match o.op with
 | .alloc _| .box ..| .store ..| .buildSlice ..| .makeSlice ..| .makeMap ..| .insert ..| .mapUpdate ..=>U
 | .call {callee:=.builtin .append,..}=>U
 | .call {callee:=.builtin .copy,..}=>U
 | .call {callee:=.value _,..}=>!plainTy P 8 o.type
 | .call {callee:=.invoke ..,..}=>!plainTy P 8 o.type
 |_=>X
def flagsGo (sp:aU->aL):bh->bw->List Bool
 |fs,[]=>fs
 |fs,o::os=>flagsGo sp (fs++[sp o ||o.after.toList.any (λe=>Region.binds .any e&&fs.getD e.on X)]) os
def isAsg (o:aU):aL:=
 match o.op with
 | .assign _=>U
 |_=>X
def basesOf (H:aE) (ops:bw) (F:aD):aC->aC->List Nat
 |0,_=>[]
 | d+1,t=>match ops.find? (λo=>o.dst==ah t&&!isAsg o) with
  | some o=>match o.op with
   | .fieldAddr _ (.tmp y) _=>basesOf H ops F d y
   | .indexAddr _ (.tmp y) _=>basesOf H ops F d y
   | .move (.tmp y)=>basesOf H ops F d y
   | .nilCheck (.tmp y)=>basesOf H ops F d y
   | .load _ (.tmp y)=>(basesOf H ops F d y).flatMap λk=>match H[k]? with
    |some b=>ownsL b.c
    |none=>[]
   |_=>[]
  |none=>match F.getD t .junk with
   | .own k _=>[k]
   | .op k _ _ _=>[k]
   | .os k _ _ _=>[k]
   | .om k=>[k]
   |_=>[]
def tracked (H:aE) (ops:bw) (F:aD):aH:=ops.flatMap λo=>match o.op with
 | .store _ (.tmp x) _=>basesOf H ops F 12 x
 | .insert _ (.tmp x) _ _=>basesOf H ops F 12 x
 | .mapUpdate _ (.tmp x) _ _=>basesOf H ops F 12 x
 | .call {callee:=.builtin .append,args,..}=>match args.toList with
  |(.tmp x)::_=>basesOf H ops F 12 x
  |_=>[]
 | .call {callee:=.builtin .copy,args,..}=>match args.toList with
  |(.tmp x)::_=>basesOf H ops F 12 x
  |_=>[]
 |_=>[]
def ldIn (H:aE) (ops:bw) (F:aD) (tr:aH) (o:aU):aL:=
 match o.op with
 | .load _ (.tmp x)=>(basesOf H ops F 12 x).any tr.contains
 |_=>X
def maskB (b:bx):bx:=
 match b.k with
 | .cl=>⟨aq (M b.c) .junk,b.t,.cl,b.p⟩
 |_=>⟨[],b.t,.dead,X⟩
def maskGo (tr:aH):aC->aE->List Blk
 |_,[]=>[]
 |k,b::bs=>(if tr.contains k then maskB b else b)::maskGo tr (k+1) bs
def isCall (o:aU):aL:=
 match o.op with
 | .call {callee:=.value _,..}=>U
 | .call {callee:=.invoke ..,..}=>U
 |_=>X
def apartL (G:bb) (F:aD) (tr:aH) (o:aU):aL:=
 match o.op with
 | .load _ x=>match evalL G F x with
  | .own k _=>!tr.contains k
  | .op k _ _ _=>!tr.contains k
  |_=>U
 | .lookup _ x _ _=>match evalL G F x with
  | .om k=>!tr.contains k
  |_=>U
 |_=>U
def fstT (t:T<|LV×List Blk):T LV:=t.bind λq=> .ok q.1
def calmx (P:aR) (G:bb) (Γ:aLY) (tr:aH) (F:aD) (Hm:aE) (o:aU):T LV:=
 if isSp P o || !apartL G F tr o then .no
 else if isCall o then onlyPl (fstT<|opx P G Γ F Hm o)
 else fstT (opx P G Γ F Hm o)
def p1x (P:aR) (G:bb) (Γ:aLY) (ops:aJ) (tr:aH) (H Hm:aE):bh->bw->aD->T (List LV×List Blk)
 | f::fs,o::os,F=>
  if f then p1x P G Γ ops tr H Hm fs os F else
  let go (F:aD):T (List LV×List Blk):=(calmx P G Γ tr F Hm o).bind λy=>p1x P G Γ ops tr H Hm fs os<|setF F o.dst y
  let pass (F:aD):T (List LV×List Blk):=p1x P G Γ ops tr H Hm fs os<|setF F o.dst<|.v undef
  match o.guard with
  |none=>go F
  | some (j,want)=>match (ops[j]?).bind (·.dst) with
   |some d=>match F.getD d .junk with
    | .bl b=>if b=want then go F else pass F
    | .v (.bool g)=>if want then .br g (go<|F.set d<|.bl U) (pass<|F.set d<|.bl X) else .br g (pass<|F.set d<|.bl U) (go<|F.set d<|.bl X)
    | .v (.tuple _)=>pass F
    |_=> .no
   |none=> .no
 |_,_,F=> .ok (F,H)
def wrt (G:bb) (F:aD) (o:aU):aH:=
 match o.op with
 | .store _ x _=>owns (evalL G F x)
 | .insert _ x _ _=>owns (evalL G F x)
 | .mapUpdate _ x _ _=>owns (evalL G F x)
 | .call {callee:=.builtin .append,args,..}=>match args.toList.map (evalL G F) with
  |x::_=>owns x
  | []=>[]
 | .call {callee:=.builtin .copy,args,..}=>match args.toList.map (evalL G F) with
  |x::_=>owns x
  | []=>[]
 |_=>[]
def okStore (G:bb) (F:aD) (tr:aH) (n0:aC) (o:aU):aL:=(wrt G F o).all λk=>tr.contains k ||an (n0<=k)
def p2x (P:aR) (G:bb) (Γ:aLY) (ops:aJ) (tr:aH) (n0:aC):bh->bw->aD->aE->T (List LV×List Blk)
 | f ::fs,o::os,F,H=>
  if f then
   let go (F:aD):T (List LV×List Blk):=if okStore G F tr n0 o then (opx P G Γ F H o).bind λq=>p2x P G Γ ops tr n0 fs os (setF F o.dst q.1) q.2 else .no
   let pass (F:aD):T (List LV×List Blk):=p2x P G Γ ops tr n0 fs os (setF F o.dst<|.v undef) H
   match o.guard with
   |none=>go F
   | some (j,want)=>match (ops[j]?).bind (·.dst) with
    |some d=>match F.getD d .junk with
     | .bl b=>if b=want then go F else pass F
     | .v (.bool g)=>if want then .br g (go<|F.set d<|.bl U) (pass<|F.set d<|.bl X) else .br g (pass<|F.set d<|.bl U) (go<|F.set d<|.bl X)
     | .v (.tuple _)=>pass F
     |_=> .no
    |none=> .no
  else p2x P G Γ ops tr n0 fs os F H
 |_,_,F,H=> .ok (F,H)
def isMk (o:aU):aL:=
 match o.op with
 | .buildSlice ..=>U
 | .call {callee:=.value _,..}=>U
 |_=>X
def isAl (o:aU):aL:=
 match o.op with
 | .alloc _=>U
 | .box ..=>U
 | .makeSlice ..=>U
 | .buildSlice _ len parts=>(len==0)&&parts.toList.isEmpty
 |_=>X
def isAm (o:aU):aL:=
 match o.op with
 | .alloc _=>U
 | .box ..=>U
 | .load ..=>U
 |_=>X
def mkx (P:aR) (G:bb) (Γ:aLY) (F:aD) (o:aU):T LV:=
 match o.op with
 | .buildSlice t len parts=>if rowLit Γ t then .no else if noOwnL ((parts.toList.map λq=>(q.1,evalL G F q.2)).map (·.2)) then litL P t len (parts.toList.map λq=>(q.1,evalL G F q.2)) else .no
 | .call {callee:=.value f,args,..}=>match evalL G F f with
  | .fn g cap=>match P.funcs[g]? with
   | some fn=>if fn.body.isSome&&!(fn.name== "runtime.NumGoroutine") then
     match Γ g with
     |some S=>if noOwnL (args.toList.map (λx=>norm<|evalL G F x)++cap) then S (args.toList.map (λx=>norm<|evalL G F x)++cap) else .no
     |none=> .no
    else .no
   |none=> .no
  |_=> .no
 |_=> .no
def onsOf (o:aU):aH:=(o.after.toList.filter<|Region.binds .any).map (·.on)
def ancG:List (List Nat)->bw->List (List Nat)
 |acc,[]=>acc
 |acc,o::os=>ancG (acc++[(onsOf o++(onsOf o).flatMap (λk=>acc.getD k [])).eraseDups]) os
def soleG (A:List<|List Nat) (n i:aC):aL:=(au n).all λj=>j==i ||(A.getD i []).contains j ||(A.getD j []).contains i
def isEl (o:aU):aL:=
 match o.op with
 | .buildSlice _ len _=>len==0
 |_=>X
def mkI (ops:aJ) (i:aC) (o:aU):aL:=(isMk o&&!isEl o)&&!soleG (ancG [] ops.toList) ops.size i
def spx (P:aR) (G:bb) (Γ:aLY) (ops:aJ) (i:aC) (F:aD) (H:aE) (o:aU):T (LV×List Blk):=
 if mkI ops i o then (mkx P G Γ F o).bind λy=> .ok (y,H) else opx P G Γ F H o
def p2f (P:aR) (G:bb) (Γ:aLY) (ops:aJ) (tr:aH) (n0:aC):aH->aD->aE->T (List LV×List Blk)
 | [],F,H=> .ok (F,H)
 |i::is,F,H=>match ops[i]? with
  |some o=>if o.guard.isNone&&okStore G F tr n0 o then (spx P G Γ ops i F H o).bind λq=>p2f P G Γ ops tr n0 is (setF F o.dst q.1) q.2 else .no
  |none=> .no
def isNm (o:aU):aL:=
 match o.op with
 | .move _=>U
 | .assign _=>U
 | .indexAddr ..=>U
 | .fieldAddr ..=>U
 | .build ..=>U
 | .extract ..=>U
 | .call {callee:=.builtin .max,..}=>U
 | .call {callee:=.builtin .min,..}=>U
 | .binOp op _ _ _ _=>(match op with
  | .add=>U
  | .sub=>U
  | .mul=>U
  |_=>X)
 |_=>X
def isLd (o:aU):aL:=
 match o.op with
 | .load ..=>U
 |_=>X
def isSto (o:aU):aL:=
 match o.op with
 | .store ..=>U
 | .alloc _=>U
 | .box ..=>U
 |_=>X
def isAp (o:aU):aL:=
 match o.op with
 | .call {callee:=.builtin .append,..}=>U
 |_=>X
def commB (ops:aJ) (i j:aC):aL:=
 match ops[i]?,ops[j]? with
 |some x,ah y=>x.guard.isNone&&y.guard.isNone&&((isAm x&&mkI ops j y) ||(mkI ops i x&&isAm y) ||(mkI ops i x&&mkI ops j y) ||((isNm x ||isLd x)&&(isNm y ||isLd y)) ||(isNm x&&isSto y) ||(isSto x&&isNm y) ||(mkI ops i x&&isAp y) ||(isAp x&&mkI ops j y))&&x.apart ops y
 |_,_=>X
def befR (i:aC):aH->List Nat
 | []=>[]
 |j::js=>if j=i then [] else j::befR i js
def ordF (ops:aJ):aC->aH->aY->Bool
 |0,R,listed=>R.isEmpty&&(ay .any ops listed).isEmpty
 |n+1,R,listed=>!(ay .any ops listed).isEmpty&&(ay .any ops listed).all λi=>R.contains i&&(befR i R).all (λj=>commB ops i j)&&ordF ops n (R.erase i) (listed.setIfInBounds i U)
def preB (ops:aJ) (i p:aC):aL:=
 match ops[i]? with
 |some o=>o.after.toList.any λe=>Region.binds .any e&&e.on==p
 |none=>X
def preTB (ops:aJ) (R:aH):aC->aC->aC->Bool
 |0,i,j=>preB ops i j
 |n+1,i,j=>preB ops i j ||R.any λp=>preB ops i p&&preTB ops R n p j
def pairsQ (ops:aJ) (R0:aH):aH->Bool
 | []=>U
 |j::R=>R.all (λi=>commB ops i j ||preTB ops R0 4 i j)&&pairsQ ops R0 R
def topoQ (ops:aJ) (R:aH) (listed:aY):aL:=R.all λi=>
 match ops[i]? with
 |some o=>o.after.toList.all λe=>!Region.binds .any e ||(listed.getD e.on X ||(befR i R).contains e.on)
 |none=>X
def dupQ:aH->Bool
 | []=>U
 |x::l=>!l.contains x&&dupQ l
def ordQ (ops:aJ) (R:aH) (listed:aY):aL:=
 dupQ R&&(listed.size==ops.size&&((au ops.size).all (λi=>R.contains i==!listed.getD i U)&&(R.all (λi=>an<|i<ops.size)&&(pairsQ ops R R&&topoQ ops R listed))))
def floatx (ops:aJ) (flags:bh):aL:=letI a:=afterL (idxs X flags 0)<|Array.replicate ops.size X;letI b:=idxs U flags 0;floatB ops flags&&(ordQ ops b a ||ordF ops (M b) b a)
def deadBk:bx:=⟨[],0,.dead,X⟩
def alAt (P:aR) (G:bb) (F:aD) (H:aE) (k:aC) (o:aU):T (LV×List Blk):=
 match o.op with
 | .alloc t=>match zeroT P t with
  |some z=>match cellsL (.v z) with
   |some cs=> .ok (.own k 0,H.set k ⟨cs,t,.cl,X⟩)
   |none=> .no
  |none=> .no
 | .box t x=>match cellsL (evalL G F x) with
  |some cs=> .ok (.own k 0,H.set k ⟨cs,t,.cl,X⟩)
  |none=> .no
 | .makeSlice t n c=>match elemT P t,pl<|evalL G F n,pl (evalL G F c) with
  | some (e,ty,m,by_),ah (ag J n),ah (ag J c)=>match zeroT P e with
   |some z=>match decL ty (z.cells.toList.map .v) with
    |some d=>if z.cells.size=m then .req (0<=n/\n<=c/\by_*c<=2^48/\c<2^63) (.ok (.os k m 0 n.toNat,H.set k ⟨[],e,.vec ty<|aq n.toNat d,X⟩)) else .no
    |none=> .no
   |none=> .no
  |_,_,_=> .no
 | .buildSlice t len parts=>if len=0 then (if parts.toList.isEmpty then (match elemT P t with
  |some (e,ty,m,_)=> .ok (.os k m 0 0,H.set k ⟨[],e,.vec ty [],X⟩)
  |none=> .no) else .no) else .no
 |_=> .no
def defI (ops:aJ) (t:Tmp):bn:=(au ops.size).find? λi=>match ops[i]? with
 |some o=>o.dst==ah t
 |none=>X
def apD (ops:aJ) (o:aU):bn:=
 match o.op with
 | .call {callee:=.builtin .append,args,..}=>(match args.toList with
  | .tmp t::_=>defI ops t
  |_=>aj)
 |_=>aj
def apK (d n0:aC):aD->Bool
 | [.os k _ _ _,.xl _ _]=>k==n0+d
 |_=>X
def apOk (G:bb) (ops:aJ) (n0:aC) (F:aD) (H:aE) (o:aU):aL:=
 match o.op with
 | .call {callee:=.builtin .append,args,..}=>(match apD ops o with
  |some d=>an (n0+ops.size<=M H)&&apK d n0 (args.toList.map<|evalL G F)
  |none=>X)
 |_=>X
def isSt (o:aU):aL:=
 match o.op with
 | .store ..=>U
 | .move _=>U
 | .assign _=>U
 | .build ..=>U
 |_=>X
def spa (P:aR) (G:bb) (Γ:aLY) (ops:aJ) (n0 i:aC) (F:aD) (H:aE) (o:aU):T (LV×List Blk):=
 if isAl o then alAt P G F H (n0+i) o else if isSt o then opx P G Γ F H o else if apOk G ops n0 F H o then opx P G Γ F H o else .no
def p2a (P:aR) (G:bb) (Γ:aLY) (ops:aJ) (tr:aH) (n0:aC):aH->aD->aE->T (List LV×List Blk)
 | [],F,H=> .ok (F,H)
 |i::is,F,H=>match ops[i]? with
  |some o=>if o.guard.isNone&&okStore G F tr n0 o then (spa P G Γ ops n0 i F H o).bind λq=>p2a P G Γ ops tr n0 is (setF F o.dst q.1) q.2 else .no
  |none=> .no
def isMv (o:aU):aL:=
 match o.op with
 | .move _=>U
 | .assign _=>U
 | .build ..=>U
 |_=>X
def commA (ops:aJ) (i j:aC):aL:=
 match ops[i]?,ops[j]? with
 |some x,ah y=>!(i==j)&&x.guard.isNone&&y.guard.isNone&&(((isAl x ||isMv x)&&(isAl y ||isMv y)) ||((isAl x ||isMv x)&&(isAp y&&!(apD ops y==ah i))) ||((isAp x&&!(apD ops x==ah j))&&(isAl y ||isMv y)))&&x.apart ops y
 |_,_=>X
def ordA (ops:aJ):aC->aH->aY->Bool
 |0,R,listed=>R.isEmpty&&(ay .any ops listed).isEmpty
 |n+1,R,listed=>!(ay .any ops listed).isEmpty&&(ay .any ops listed).all λi=>R.contains i&&(befR i R).all (λj=>commA ops i j)&&ordA ops n (R.erase i) (listed.setIfInBounds i U)
def nodupN:aH->Bool
 | []=>U
 |k::ks=>!ks.contains k&&nodupN ks
def alx (ops:aJ) (flags:bh):aL:=letI a:=idxs U flags 0;floatB ops flags&&nodupN a&&a.all (λi=>an<|i<ops.size)&&ordA ops (M a) a (afterL (idxs X flags 0)<|Array.replicate ops.size X)
def pux (P:aR) (G:bb) (Γ:aLY) (F:aD) (o:aU):T LV:=
 match o.op with
 | .move x=> .ok (evalL G F x)
 | .assign x=> .ok (evalL G F x)
 | .pick c a b=>pickL (evalL G F c) (evalL G F a) (evalL G F b)
 | .load t x=>(match evalL G F x with
  | .xq m f=>loadL P [] t (.xq m f)
  |_=> .no)
 | .fieldAddr s x i=>fieldL P s (evalL G F x) i
 | .indexAddr t x i=>indexL P t (evalL G F x) (isKi<|evalL G F i) (evalL G F i)
 | .build t parts=>buildL P t (parts.toList.map λq=>(q.1,evalN G F q.2))
 | .buildSlice ..=>mkx P G Γ F o
 | .call {callee:=.value _,..}=>mkx P G Γ F o
 | .unOp ..=>genL P G F o
 | .binOp op _ _ _ _=>(match op with
  | .quo=> .no
  | .rem=> .no
  | .shl=> .no
  | .shr=> .no
  |_=>genL P G F o)
 |_=> .no
def ownAd (G:bb) (F:aD) (o:aU):aL:=
 match o.op with
 | .load _ x=>(match evalL G F x with
  | .own _ _=>U
  |_=>X)
 |_=>U
def isLt (P:aR) (o:aU):aL:=
 match o.op with
 | .buildSlice t len _=>an (len≠0)&&typedSl P t
 |_=>X
def mkZ (zb:aL) (P:aR) (ops:aJ) (i:aC) (o:aU):aL:=zb&&(isLt P o&&!soleG (ancG [] ops.toList) ops.size i)
def spz (zb:aL) (P:aR) (G:bb) (Γ:aLY) (ops:aJ) (i:aC) (F:aD) (H:aE) (o:aU):T (LV×List Blk):=if ownAd G F o then (if mkZ zb P ops i o then (mkx P G Γ F o).bind λy=> .ok (y,H) else opx P G Γ F H o) else .no
def p2z (zb:aL) (P:aR) (G:bb) (Γ:aLY) (ops:aJ) (tr:aH) (n0:aC):aH->aD->aE->T (List LV×List Blk)
 | [],F,H=> .ok (F,H)
 |i::is,F,H=>match ops[i]? with
  |some o=>if o.guard.isNone&&okStore G F tr n0 o then (spz zb P G Γ ops i F H o).bind λq=>p2z zb P G Γ ops tr n0 is (setF F o.dst q.1) q.2 else .no
  |none=> .no
def isAz (P:aR) (o:aU):aL:=
 match o.op with
 | .call {callee:=.builtin .append,..}=>U
 | .buildSlice t len _=>an (len=0) ||typedSl P t
 |_=>X
def commZ (zb:aL) (P:aR) (ops:aJ) (i j:aC):aL:=
 match ops[i]?,ops[j]? with
 |some x,ah y=>x.guard.isNone&&y.guard.isNone&&(((isLd x&&isAz P y)&&!mkZ zb P ops j y) ||(mkZ zb P ops i x&&(isAz P y ||isLd y)) ||((isAz P x ||isLd x)&&mkZ zb P ops j y))&&x.apart ops y
 |_,_=>X
def ordZ (zb:aL) (P:aR) (ops:aJ):aC->aH->aY->Bool
 |0,R,listed=>R.isEmpty&&(ay .any ops listed).isEmpty
 |n+1,R,listed=>!(ay .any ops listed).isEmpty&&(ay .any ops listed).all λi=>R.contains i&&(befR i R).all (λj=>commZ zb P ops i j)&&ordZ zb P ops n (R.erase i) (listed.setIfInBounds i U)
def insLate (ops:aJ) (i:aC):aH->List Nat
 | []=>[i]
 |j::js=>if preB ops j i then i::j::js else j::insLate ops i js
def lateR (ops:aJ):aH->List Nat
 | []=>[]
 |i::is=>if (ops[i]?).any isLd then insLate ops i (lateR ops is) else i::lateR ops is
def zfl (P:aR) (ops:aJ) (flags:bh):aL:=!ordZ X P ops (M<|idxs U flags 0) (lateR ops<|idxs U flags 0) (afterL (idxs X flags 0)<|Array.replicate ops.size X)
def floatz (P:aR) (ops:aJ) (flags:bh):aL:=letI a:=idxs U flags 0;floatB ops flags&&((lateR ops a).all (λi=>flags.getD i X)&&ordZ (zfl P ops flags) P ops (M a) (lateR ops a) (afterL (idxs X flags 0)<|Array.replicate ops.size X))
def drawx (P:aR) (G:bb) (Γ:aLY) (ops:aJ) (F:aD) (H:aE):T (List LV×List Blk):=
 let tr:=tracked H ops.toList F
 let flags:=flagsGo (λo=>isSp P o ||ldIn H ops.toList F tr o) [] ops.toList
 if calmB ops flags&&P.follows .mixedOrders&&tr.all (λk=>an<|k<M H) then
  (mergeT (dsts ops.toList) F H<|p1x P G Γ ops tr H (maskGo tr 0 H) flags ops.toList F).bind λq=>p2x P G Γ ops tr (M H) flags ops.toList q.1 H
 else if (floatx ops flags ||floatz P ops flags)&&P.follows .mixedOrders&&tr.all (λk=>an<|k<M H) then
  (mergeT (dsts ops.toList) F H<|p1x P G Γ ops tr H (maskGo tr 0 H) flags ops.toList F).bind λq=>if floatx ops flags then p2f P G Γ ops tr (M H) (idxs U flags 0) q.1 H else p2z (zfl P ops flags) P G Γ ops tr (M H) (lateR ops<|idxs U flags 0) q.1 H
 else if alx ops flags&&P.follows .mixedOrders&&tr.all (λk=>an<|k<M H) then
  (mergeT (dsts ops.toList) F H<|p1x P G Γ ops tr H (maskGo tr 0 H) flags ops.toList F).bind λq=>p2a P G Γ ops tr (M H) (idxs U flags 0) q.1<|H++aq ops.size deadBk
 else .no
def srcSlot (ops:bw) (s:aC):aC:=
 match ops.find? (λo=>o.dst==ah s) with
 |some o=>match o.op with
  | .move (.tmp y)=>y
  |_=>s
 |none=>s
def isApp (o:aU):aL:=
 match o.op with
 | .call {callee:=.builtin .append,..}=>U
 |_=>X
def splitOf (P:aR) (ops:bw) (F:aD):Option (Nat×IntKind×Int×Nat):=
 if ops.any isApp then
  ops.findSome? λo=>match o.op with
   | .indexAddr t _ (.tmp s)=>match P.underlying t with
    |some (.array len e)=>match P.underlying e,F.getD (srcSlot ops s) .junk with
     |some (.slice _),.v (ag k n)=>ah (srcSlot ops s,k,n,len)
     |_,_=>aj
    |_=>aj
   |_=>aj
 else aj
def splitN {α:Type}(f:aC->T α) (n:Y):aC->aC->T α
 |0,_=> .no
 |1,j=>f j
 |m+2,j=> .br (n==(j:Y)) (f j)<|splitN f n (m+1)<|j+1
def drawy (P:aR) (G:bb) (Γ:aLY) (ops:aJ) (F:aD) (H:aE):T (List LV×List Blk):=
 match splitOf P ops.toList F with
 |some (s,k,n,len)=> .req (0<=n/\n<(len:Y)) (splitN (λj=>drawx P G Γ ops (F.set s<|.ki k j) H) n len 0)
 |none=>drawx P G Γ ops F H
def hwx (P:aR) (G:bb) (Γ:aLY) (F:aD) (H:aE) (o:aU):T LV:=
 match o.op with
 | .call c=>(match c.callee with
  | .builtin .max=>genL P G F o
  |_=>mkx P G Γ F o)
 | .move x=> .ok (evalL G F x)
 | .assign x=> .ok (evalL G F x)
 | .load t x=>loadL P H t (evalL G F x)
 | .indexAddr t x i=>indexL P t (evalL G F x) (isKi<|evalL G F i) (evalL G F i)
 | .fieldAddr s x i=>fieldL P s (evalL G F x) i
 | .nilCheck x=>match evalL G F x with
  | .own k off=> .ok (.own k off)
  | .op k es i j=> .ok (.op k es i j)
  | .xq n f=> .ok (.xq n f)
  |_=> .no
 | .binOp op _ _ _ _=>match op with
  | .add=>genL P G F o
  | .sub=>genL P G F o
  | .mul=>genL P G F o
  |_=> .no
 |_=> .no
def walkAt (G:bb) (Γ:aLY) (ops:aJ):bn:=(au ops.size).find? λi=>
 match ops[i]? with
 |some o=>(match callOf G [] o with
  |some (g,_)=>(Γ g).isNone
  |none=>X)
 |none=>X
def onsB (ops:aJ) (i:aC):aH:=
 match ops[i]? with
 |some o=>(o.after.toList.filter<|Region.binds .any).map (·.on)
 |none=>[]
def backI (ops:aJ) (i:aC):aH:=backL .any ops ops.size<|onsB ops i
def dstI (ops:aJ) (i:aC):bB:=(ops[i]?).bind (·.dst)
def looksI (ops:aJ) (i:aC):List Tmp:=
 match ops[i]? with
 |some o=>o.looksAt ops
 |none=>[]
def partA (ops:aJ) (w:aC):aH:=(au ops.size).filter λi=>!(i==w)&&!(backI ops i).contains w
def allA (ops:aJ) (w i:aC):aL:=(partA ops w).all λj=>(backI ops i).contains j
def partC (ops:aJ) (w:aC):aH:=(au ops.size).filter λi=>!(i==w)&&((backI ops i).contains w&&!allA ops w i)
def partB (ops:aJ) (w:aC):aH:=(au ops.size).filter λi=>!(i==w)&&((backI ops i).contains w&&allA ops w i)
def partW (ops:aJ) (w:aC):aH:=partA ops w++([w]++partC ops w)
def laysB (ops:aJ) (i j:aC):aL:=
 match dstI ops j with
 |some d=>(i==j || !(dstI ops i==ah d))&&(!(looksI ops i).contains d ||(!(i==j)&&an (j<i)&&(backI ops i).contains j))
 |none=>X
def noLook (ops:aJ) (i j:aC):aL:=
 match dstI ops j with
 |some d=>!(looksI ops i).contains d
 |none=>X
def okW (ops:aJ) (w n:aC):aL:=
 let AW:=partW ops w
 AW.all (λi=>(match ops[i]? with|some o=>o.guard.isNone|none=>X)&&(match dstI ops i with|some d=>an (d<n) |none=>X)&&
  (onsB ops i).all (λp=>an (p<i)&&AW.contains p)&&AW.all (λj=>laysB ops i j))&&
 ((partB ops w).all (λb=>AW.all λi=>(backI ops b).contains i)&&(partA ops w++[w]).all λi=>([w]++partC ops w).all λj=>noLook ops i j)
def goW (P:aR) (G:bb) (Γ:aLY) (ops:aJ) (H:aE):aH->aD->T (List LV)
 | [],F=> .ok F
 |i::is,F=>match ops[i]? with
  |some o=>(hwx P G Γ F H o).bind λy=>goW P G Γ ops H is (setF F o.dst y)
  |none=> .no
def chkW (P:aR) (G:bb) (Γ:aLY) (ops:aJ) (H:aE) (F:aD):aH->T Unit
 | []=> .ok ()
 | i::is=>match ops[i]? with
  |some o=>(match o.op with
   | .load _ _=>(hwx P G Γ F H o).bind λy=> .req (y=(match o.dst with|some d=>F.getD d .junk|none=> .junk)) (chkW P G Γ ops H F is)
   |_=>chkW P G Γ ops H F is)
  |none=> .no
def listedW (ops:aJ) (w:aC):aY:=((au ops.size).map λi=>(partW ops w).contains i).toArray
def topoL (ops:aJ):aC->aY->List Nat
 |0,_=>[]
 |n+1,l=>match ay .any ops l with
  | []=>[]
  |i::_=>i::topoL ops n (l.setIfInBounds i U)
def ordB (ops:aJ) (w:aC):aH:=topoL ops (M<|partB ops w)<|listedW ops w
def drawW (P:aR) (G:bb) (Γ:aLY) (K:aMf) (ops:aJ) (w:aC) (F:aD) (H:aE):T (List LV×List Blk):=
 if okW ops w (M F)&&P.follows .mixedOrders&&(M (ordB ops w)==M (partB ops w))&&(ordQ ops (ordB ops w) (listedW ops w) ||ordF ops (M<|ordB ops w) (ordB ops w) (listedW ops w)) then
  match ops[w]? with
  |some o=>(goW P G Γ ops H (partA ops w) F).bind λF1=>(opk P G Γ K F1 H o).bind λq=>(chkW P G Γ ops q.2 F1<|(partA ops w).filter λi=>!(backI ops w).contains i).bind λ_=>(goW P G Γ ops q.2 (partC ops w)<|setF F1 o.dst q.1).bind λF3=>p2f P G Γ ops (au<|M q.2) (M q.2) (ordB ops w) F3 q.2
  |none=> .no
 else .no
def drawv (P:aR) (G:bb) (Γ:aLY) (K:aMf) (ops:aJ) (F:aD) (H:aE):T (List LV×List Blk):=
 match walkAt G Γ ops with
 |some w=>drawW P G Γ K ops w F H
 |none=>drawy P G Γ ops F H
def firstR:bE->Nat
 | .region id _ _=>id
 | .seq a _=>firstR a
 | .block _ b=>firstR b
 | .loop b=>firstR b
 | .cond _ a _=>firstR a
 |_=>0
abbrev Loops:=Nat->aD->aE->T (Ex×List LV×List Blk)
def aMs:q_ (Loops):=⟨⟩
abbrev LoopC:=Code->aD->aE->T (Ex×List LV×List Blk)
def byId (L:aMs):LoopC:=λb=>L<|firstR b
def leftBy:aMa->Option Ex
 |some ⟨_,_,.lrec _ _ _ .ready,X⟩=>ah .normal
 |some ⟨_,_,.lrec _ _ _ (.done x),X⟩=>match x with
  | .normal=>aj
  |x=>ah x
 |_=>aj
def tmpO:aL2->List Nat
 | .tmp t=>[t]
 |_=>[]
def usedT:bE->List Nat
 | .region _ ops _=>ops.toList.flatMap λo=>o.op.operands.toList.flatMap tmpO
 | .seq a b=>usedT a++usedT b
 | .cond c a b=>tmpO c++usedT a++usedT b
 | .block _ b=>usedT b
 | .loop b=>usedT b
 | .rangeFunc f _ a b=>tmpO f++usedT a++usedT b
 | .scope b=>usedT b
 |_=>[]
def maskU (us:aH) (F:aD):aD:=(au<|M F).map λi=>if us.contains i then F.getD i .junk else .junk
def codex (P:aR) (G:bb) (Γ:aLY) (K:aMf) (L:LoopC):bE->aD->aE->T (Ex×List LV×List Blk)
 | .skip,F,H=> .ok (.normal,F,H)
 | .ret,F,H=> .ok (.ret,F,H)
 | .exit n,F,H=> .ok (.exit n,F,H)
 | .region _ ops d,F,H=>(if d then drawv P G Γ K ops F H else regx P G Γ K ops F H).bind λq=> .ok (.normal,q.1,q.2)
 | .seq a b,F,H=>(codex P G Γ K L a F H).bind λq=>match q.1 with
  | .normal=>codex P G Γ K L b q.2.1 q.2.2
  |x=> .ok (x,q.2)
 | .cond c a b,F,H=>match c with
  | .tmp d=>match F.getD d .junk with
   | .bl U=>codex P G Γ K L a F H
   | .bl X=>codex P G Γ K L b F H
   | .v (.bool g)=> .br g (codex P G Γ K L a (F.set d<|.bl U) H) (codex P G Γ K L b (F.set d<|.bl X) H)
   |_=> .no
  | .const (.bool U)=>codex P G Γ K L a F H
  | .const (.bool X)=>codex P G Γ K L b F H
  |_=> .no
 | .block id a,F,H=>(codex P G Γ K L a F H).bind λq=>match q.1 with
  | .exit n=>if n=id then .ok (.normal,q.2) else .ok (.exit n,q.2)
  |x=> .ok (x,q.2)
 | .loop a,F,H=>L a F H
 | .scope a,F,H=>codex P G Γ K L a F H
 | .label _,F,H=> .ok (.normal,F,H)
 | .rangeFunc f ps asg body,F,H=>match evalL G F f with
  | .fn g cap=>match P.funcs[g]? with
   | some fn=>if fn.body.isSome&&!(fn.name== "runtime.NumGoroutine") then
     (K.k g (.yld H.length::cap)<|H++[⟨maskU (usedT asg++usedT body) F,0,.lrec ps asg body .ready,X⟩]).bind λq=>match leftBy q.2[H.length]? with
      |some x=> .ok (x,F,q.2.set H.length ⟨[],0,.dead,X⟩)
      |none=> .no
    else .no
   |none=> .no
  |_=> .no
 |_,_,_=> .no
def resx (P:aR) (fn:aL8) (F:aD) (H:aE):aMp->T (List LV)
 | []=> .ok []
 | .tmp t::rs=>(resx P fn F H rs).bind λl=> .ok (norm (F.getD t .junk)::l)
 | .cell a t::rs=>(loadL P H t<|F.getD a .junk).bind λy=>(resx P fn F H rs).bind λl=> .ok (y::l)
def one (l:aD):LV:=match l with| [x]=>x|l=>mkTup l
def finX (P:aR) (fn:aL8) (t:aD->aE->T (Ex×List LV×List Blk)) (args:aD):T LV:=
 (t (args++aq (fn.ntmps-M args) (.v undef)) []).bind λq=>match q.1 with
  | .exit _=> .no
  |_=>(resx P fn q.2.1 q.2.2 fn.results.toList).bind λl=>if noOwn (one l) then .ok (one l) else (guardX q.2.2 8<|one l).bind λ_=> .ok<|toX q.2.2 8<|one l
def funx (P:aR) (G:bb) (Γ:aLY) (K:aMf) (L:aMs) (fn:aL8) (args:aD):T LV:=
 match fn.body with
 |some c=>finX P fn (codex P G Γ K (byId L) c) args
 |none=> .no
def specsOf:List (FuncId×(List LV->T LV))->Specs
 | [],_=>aj
 |p::ps,g=>if g=p.1 then ah p.2 else specsOf ps g
def noLoops:aMs:=λ_ _ _=> .no
def noLoopC:LoopC:=λ_ _ _=> .no
def noRF:bE->Bool
 | .seq a b=>noRF a&&noRF b
 | .cond _ a b=>noRF a&&noRF b
 | .block _ b=>noRF b
 | .loop b=>noRF b
 | .rangeFunc ..=>X
 | .scope b=>noRF b
 |_=>U
def unroll (t:aD->aE->T (Ex×List LV×List Blk)):aC->aD->aE->T (Ex×List LV×List Blk)
 |0,_,_=> .no
 |m+1,F,H=>(t F H).bind λq=>match q.1 with
  | .normal=>unroll t m q.2.1 q.2.2
  |x=> .ok (x,q.2)
def unrC (P:aR) (G:bb) (Γ:aLY) (K:aMf) (m:aC):aC->LoopC
 |0=>noLoopC
 |d+1=>λb=>unroll (codex P G Γ K (unrC P G Γ K m d) b) m
def setPs (F:aD):List Tmp->aD->List LV
 |t::ts,x::xs=>setPs (F.set t x) ts xs
 |_,_=>F
abbrev LoopT:=Hand->bg->aC->LoopC
def aL3:q_ (LoopT):=⟨⟩
def stepH (P:aR) (G:bb) (Γ:aLY) (LL:aL3) (K:aMf):aMf:=
 ⟨λg args H=>match P.funcs[g]? with
  | some fn=>match fn.body with
   |some c=>(codex P G Γ K (LL K g<|M H) c (args++aq (fn.ntmps-M args) (.v undef)) H).bind λq=>match q.1 with
    | .exit _=> .no
    |_=>(resx P fn q.2.1 q.2.2 fn.results.toList).bind λl=> .ok (one l,q.2.2)
   |none=> .no
  |none=> .no,
  λk args H=>match H[k]? with
  | some ⟨F,t,.lrec ps asg body .ready,X⟩=>if M args=ps.size/\noRF asg=U/\noRF body=U then
    (codex P G Γ K noLoopC asg (setPs F ps.toList args) H).bind λ(q:Ex×List LV×List Blk)=>match q.1 with
     | .normal=>(match q.2.2[k]? with
      | some ⟨F1,_,.lrec ps1 asg1 body1 .ready,X⟩=>(codex P G Γ K (unrC P G Γ K 20 2) body q.2.1<|q.2.2.set k ⟨F1,t,.lrec ps1 asg1 body1 .busy,X⟩).bind λ(r:Ex×List LV×List Blk)=>match r.2.2[k]? with
       |some ⟨F2,_,.lrec ps2 asg2 body2 .busy,X⟩=>(match r.1 with
        | .normal=> .ok (.bl U,r.2.2.set k ⟨F2,t,.lrec ps2 asg2 body2 .ready,X⟩)
        |x=> .ok (.bl X,r.2.2.set k ⟨F2,t,.lrec ps2 asg2 body2<|.done x,X⟩))
       |_=> .no
      |_=> .no)
     |_=> .no
   else .no
  |_=> .no⟩
def inl (P:aR) (G:bb) (Γ:aLY) (LL:aL3):aC->Hand
 |0=>noK
 |d+1=>stepH P G Γ LL<|inl P G Γ LL d
abbrev Does:=FuncId->Option (List LV->aE->T (LV×List Blk))
def inlC (P:aR) (G:bb) (Γ:aLY) (LL:aL3) (C:Does):aC->Hand
 |0=>noK
 |d+1=>⟨λg args H=>match C g with
  |some m=>m args H
  |none=>(stepH P G Γ LL<|inlC P G Γ LL C d).k g args H,(stepH P G Γ LL<|inlC P G Γ LL C d).y⟩
structure Gz where
 z:aC->Prop
 gh:List (LV×Value)
 mks:aH
variable {P : Program} {G : Globs} {Γ : Specs} {β : Nat -> Loc} {Z : Nat -> Prop} {Z0 : Gz} {w w0 : World} {F : List LV} {H : List Blk} {a : Act} {ds : List Deferred}
def pl_R {x:LV}{y z:aV}(h:pl x=ah y) (hr:R β Z w x z):z=y:=by
 cases x with
 |v q=>simp only [pl,Ac] at h;simp only [R] at hr;rw [hr,h]
 |bl b=>simp only [pl,Ac] at h;simp only [R] at hr;rw [hr,h]
 |ki k n=>simp only [pl,Ac] at h;simp only [R] at hr;rw [hr,h]
 | fn f l=>
  cases l with
  |nil=>
   simp only [pl,Ac] at h;simp only [R,RL] at hr;obtain ⟨ys,h1,h2⟩:=hr
   have:ys=#[]:=A8
   grind
  |cons _ _=>simp [pl] at h
 |_=>simp [pl] at h
def R_pl {x:LV}{y:aV}(h:pl x=ah y):R β Z w x y:=by
 cases x with
 |v q=>simp only [pl,Ac] at h;simp only [R];exact h.symm
 |bl b=>simp only [pl,Ac] at h;simp only [R];exact h.symm
 |ki k n=>simp only [pl,Ac] at h;simp only [R];exact h.symm
 |fn f l=>
  cases l with
  |nil=>simp only [pl,Ac] at h;simp only [R,RL];exact ⟨#[],h.symm,rfl⟩
  |cons _ _=>simp [pl] at h
 |_=>simp [pl] at h
def plL_R:∀ {l:aD}{ys zs:aT},plL l=ah ys->RL β Z w l zs->zs=ys
 | [],ys,zs,h,hr=>by simp only [plL,Ac] at h;simp only [RL] at hr;rw [hr,h]
 | x::xs,ys,zs,h,hr=>by
  simp only [plL] at h;split at h
  ·rename_i y ys' h1 h2
   simp only [Ac] at h;obtain ⟨y',zs',e1,e2,e3⟩:=hr;rw [e1,pl_R h1 e2,plL_R h2 e3,h]
  ·cases h
def norm_R {x:LV}{y:aV}(h:R β Z w x y):R β Z w (norm x) y:=sB
def norm_ok {n:aC}{x:LV}(h:okV n x):okV n (norm x):=sB
def normL_R:∀ {l:aD}{ys:aT},RL β Z w l ys->RL β Z w (l.map norm) ys
 | [],_,h=>A8
 |x::xs,ys,h=>by
  obtain ⟨y,zs,h1,h2,h3⟩:=h;exact ⟨y,zs,h1,norm_R h2,normL_R h3⟩
def normL_ok {n:aC}:∀ {l:aD},okL n l->okL n (l.map norm)
 | [],_=>trivial
 |x::xs,h=>by
  exact ⟨norm_ok h.1,normL_ok h.2⟩
def mkAgg_R {l:aD}{ys:aW}(h:RL β Z w l ys.toList):R β Z w (mkAgg l) (.agg ys):=by
 unfold mkAgg;exact aIr
def mkTup_R {l:aD}{ys:aW}(h:RL β Z w l ys.toList):R β Z w (mkTup l) (.tuple ys):=by
 unfold mkTup;exact aIr
def mkAgg_ok {n:aC}{l:aD}(h:okL n l):okV n (mkAgg l):=by
 unfold mkAgg;split
 ·trivial
 ·simpa only [okV] using normL_ok h
def mkTup_ok {n:aC}{l:aD}(h:okL n l):okV n (mkTup l):=by
 unfold mkTup;split
 ·trivial
 ·simpa only [okV] using normL_ok h
def okL_v (n:aC):∀(l:aT),okL n (l.map .v)
 | []=>trivial
 |_::xs=>⟨ak,okL_v n xs⟩
def RL_v:∀(l:aT),RL β Z w (l.map .v) l
 | []=>W8
 |x::xs=>by simp only [D2,RL,R];exact ⟨x,xs,rfl,rfl,RL_v xs⟩
def isCell_one {x:LV}{y:aV}(h:isCell x=U) (hr:R β Z w x y):oneB y=true:=by
 cases x with
 |v q=>simp only [R] at hr;rw [hr];exact h
 |bl b=>simp only [R] at hr;rw [hr];rfl
 |ki k n=>simp only [R] at hr;rw [hr];rfl
 |own k off=>simp only [R] at hr;rw [hr];rfl
 |fn f l=>simp only [R] at hr;obtain ⟨ys,h1,_⟩:=hr;rw [h1];rfl
 |fb f l=>simp only [R] at hr;obtain ⟨ys,h1,_⟩:=hr;rw [h1];rfl
 |xq n f=>simp only [R] at hr;obtain ⟨b,off,h1,_⟩:=hr;rw [h1];rfl
 |os k es off n=>
  simp only [R] at hr;split at hr
  ·rw [hr.2.2];rfl
  ·obtain ⟨_,a,h1,_⟩:=hr;rw [h1];rfl
 |op k es i j=>simp only [R] at hr;rw [hr.2];rfl
 |om k=>simp only [R] at hr;rw [hr];rfl
 |mp kd ks vs=>simp only [R] at hr;obtain ⟨r,es,c,h1,_⟩:=hr;rw [h1];rfl
 |oc k es off n c=>simp only [R] at hr;obtain ⟨_,a,h1,_⟩:=hr;rw [h1];rfl
 |yld k=>simp only [R] at hr;rw [hr];rfl
 |xl e l=>simp only [R] at hr;obtain ⟨b,off,h1,_⟩:=hr;rw [h1];rfl
 |agg l=>simp [isCell] at h
 |tup l=>simp [isCell] at h
 |junk=>simp [isCell] at h
def one_cells {y:aV}(h:oneB y=U):y.cells=#[y]:=by cases y<;>first|rfl|(simp [oneB] at h)
def cellsL_R {x:LV}{y:aV}{cs:aD}(h:cellsL x=ah cs) (hr:R β Z w x y):RL β Z w cs y.cells.toList/\(∀z∈y.cells.toList,oneB z=U):=by
 have single:∀x:LV,isCell x=U->R β Z w x y->RL β Z w [x] y.cells.toList/\(∀z∈y.cells.toList,oneB z=U):=λx hx hr=>by
  have h1:=isCell_one hx hr
  rw [one_cells h1];refine ⟨?_,?_⟩
  ·simp only [RL];exact ⟨y,[],rfl,hr,rfl⟩
  ·intro z hz
   grind
 cases x with
 | v q=>
  simp only [cellsL] at h;split at h
  ·rename_i ha
   simp only [Ac] at h;subst h hr;exact ⟨RL_v _,λz hz=>B7.1 ha z hz⟩
  ·cases h
 | agg l=>
  simp only [cellsL] at h;split at h
  ·rename_i ha
   simp only [Ac] at h;obtain ⟨ys,h1,h2⟩:=hr;subst h h1;refine ⟨h2,λz hz=>?_⟩
   obtain ⟨i,hi,hz'⟩:=GB.1 hz
   have hlen:=RL.length h2
   have hl:l[i]? =ah (l[i]'(by simp only [Value.cells] at hi;omega)):=Cs _
   obtain ⟨y',e1,e2⟩:=RL.get i _ h2 hl
   have:y'=z:=by
    simp only [Value.cells] at hi hz'
    grind
   rw [<-this];exact isCell_one (B7.1 ha _<|EL _) e2
  ·cases h
 |bl b=>simp only [cellsL,Ac] at h;subst h;exact single _ rfl hr
 |ki k n=>simp only [cellsL,Ac] at h;subst h;exact single _ rfl hr
 |own k off=>simp only [cellsL,Ac] at h;subst h;exact single _ rfl hr
 |fn f l=>simp only [cellsL,Ac] at h;subst h;exact single _ rfl hr
 |fb f l=>simp only [cellsL,Ac] at h;subst h;exact single _ rfl hr
 |xq n f=>simp only [cellsL,Ac] at h;subst h;exact single _ rfl hr
 |os k es off n=>simp only [cellsL,Ac] at h;subst h;exact single _ rfl hr
 |op k es i j=>simp only [cellsL,Ac] at h;subst h;exact single _ rfl hr
 |om k=>simp only [cellsL,Ac] at h;subst h;exact single _ rfl hr
 |mp kd ks vs=>simp only [cellsL,Ac] at h;subst h;exact single _ rfl hr
 |oc k es off n c=>simp only [cellsL,Ac] at h;subst h;exact single _ rfl hr
 |yld k=>simp only [cellsL,Ac] at h;subst h;exact single _ rfl hr
 |xl e l=>simp only [cellsL,Ac] at h;subst h;exact single _ rfl hr
 |tup l=>simp [cellsL] at h
 |junk=>simp [cellsL] at h
def cellsL_ok {n:aC}{x:LV}{cs:aD}(h:cellsL x=ah cs) (hr:okV n x):okL n cs:=by
 cases x with
 |v q=>
  simp only [cellsL] at h;split at h
  ·simp only [Ac] at h;subst h;exact okL_v _ _
  ·cases h
 |agg l=>
  simp only [cellsL] at h;split at h
  ·simp only [Ac] at h;subst h;simpa only [okV] using hr
  ·cases h
 |bl b=>simp only [cellsL,Ac] at h;subst h;exact ⟨hr,ak⟩
 |ki k n=>simp only [cellsL,Ac] at h;subst h;exact ⟨hr,ak⟩
 |own k off=>simp only [cellsL,Ac] at h;subst h;exact ⟨hr,ak⟩
 |fn f l=>simp only [cellsL,Ac] at h;subst h;exact ⟨hr,ak⟩
 |fb f l=>simp only [cellsL,Ac] at h;subst h;exact ⟨hr,ak⟩
 |xq n f=>simp only [cellsL,Ac] at h;subst h;exact ⟨hr,ak⟩
 |os k es off n=>simp only [cellsL,Ac] at h;subst h;exact ⟨hr,ak⟩
 |op k es i j=>simp only [cellsL,Ac] at h;subst h;exact ⟨hr,ak⟩
 |om k=>simp only [cellsL,Ac] at h;subst h;exact ⟨hr,ak⟩
 |mp kd ks vs=>simp only [cellsL,Ac] at h;subst h;exact ⟨hr,ak⟩
 |oc k es off n c=>simp only [cellsL,Ac] at h;subst h;exact ⟨hr,ak⟩
 |yld k=>simp only [cellsL,Ac] at h;subst h;exact ⟨hr,ak⟩
 |xl e l=>simp only [cellsL,Ac] at h;subst h;exact ⟨ak,ak⟩
 |tup l=>simp [cellsL] at h
 |junk=>simp [cellsL] at h
def GlOk (G:bb) (Z:aC->Prop) (w:aO):Prop:=∀g n f,G g=ah (n,f)->Z g/\∀j,j<n->w.cell? ⟨g,j,aj⟩=ah (f j)
def okB (n:aC) (b:bx):Prop:=okL n b.c/\(match b.k with| .mp _ _ vs=>okL n vs|_=>True)
def live (β:aC->aL1) (k:aC) (b:bx):Prop:=
 match b.k with
 | .cl=>True
 | .vec _ _=>(β k).cap≠aj
 | .mp ..=>True
 | .lrec ..=>True
 | .st ..=>True
 | .dead=>False
def exCode:Ex->Option Code
 | .normal=>aj
 | .exit n=>ah (.exit n)
 | .ret=>ah .ret
def LsR:LS->Loop->Prop
 | .ready,r=>r.state=.ready/\r.pending=aj
 | .busy,r=>r.state=.busy
 | .done x,r=>r.state=.done/\r.pending=exCode x
def BlkR (β:aC->aL1) (Z:aC->Prop) (w:aO) (k:aC) (b:bx):Prop:=
 match b.k with
 | .cl=>∃cs,w.heap[(β k).b]? =ah (.cells cs b.t (0,0))/\RL β Z w b.c cs.toList
 | .vec e l=>match (β k).cap with
  |none=>l=[]
  |some c=>∃cs,w.heap[(β k).b]? =ah (.cells cs b.t (0,0))/\(β k).o+c*e.n<=cs.size/\M l<=c/\∀(i:aC) (d:e.D),l[i]? =ah d->RD Z w e d (β k).b ((β k).o+i*e.n)
 | .mp kd ks vs=>∃es clock,w.heap[(β k).b]? =ah (.map es clock)/\es.toList.map (·.key)=ks.map (.int kd)/\RL β Z w vs (es.toList.map (·.val))
 | .lrec ps asg body st=>∃r:Loop,w.heap[(β k).b]? =ah (.loop r)/\r.params=ps/\r.assign=asg/\r.body=body/\LsR st r/\RL β Z w b.c r.tmps.toList
 | .st e l=>∃es clock,w.heap[(β k).b]? =ah (.map es clock)/\es.toList.map (·.key)=List.map (keyV e) l/\∀x,x∈es.toList->x.val=.bool U
 | .dead=>True
abbrev markOf (D:aC):Deferred:={target:=.collected D,args:=#[]}
def MkAt (w:aO) (D:aC):Prop:=w.heap[D]? =ah (.deferred<|ah [])
structure RW (G:bb) (w0:aO) (Z0:Gz) (Z:aC->Prop) (β:aC->aL1) (H:aE) (w:aO):Prop where
 below:Below w0.heap.size w0 w
 zlt:∀b,Z b->b<w.heap.size
 znew:∀b,Z b->Z0.z b\/w0.heap.size<=b
 zown:∀k b,H[k]? =ah b->live β k b->b.p=X->¬Z (β k).b
 zpub:∀k b,H[k]? =ah b->live β k b->b.p=U->Z (β k).b
 low:∀k b,H[k]? =ah b->live β k b->w0.heap.size<=(β k).b
 inj:∀i j bi bj,H[i]? =ah bi->H[j]? =ah bj->live β i bi->live β j bj->bi.p=X->(β i).b=(β j).b->i=j
 blk:∀k b,H[k]? =ah b->BlkR β Z w k b/\okB (M H) b
 glob:GlOk G Z w
 gh:∀p,p∈Z0.gh->R β Z w p.1 p.2/\okV (M H) p.1
 mks:∀D,D∈Z0.mks->Z D/\MkAt w D
structure RF (ds:aL0) (β:aC->aL1) (Z:aC->Prop) (w:aO) (n:aC) (F:aD) (a:bc):Prop where
 size:a.tmps.size=M F
 get:∀t x,F[t]? =ah x->R β Z w x (a.tmps.getD t undef)/\okV n x
 defers:a.defers=ds/\∀d,d∈ds->∃D,d=markOf D/\Z D/\MkAt w D
def RF.eval (hF:RF ds β Z w (M H) F a) (hg:GlOk G Z w) (x:aL2):R β Z w (evalL G F x) (a.eval x)/\okV (M H) (evalL G F x):=by
 cases x with
 |tmp t=>
  simp only [evalL,Act.eval];cases h:F[t]? with
  |none=>simp [List.getD,h,R,okV]
  |some y=>simp only [List.getD,h,cK];exact hF.get t y h
 |const x=>
  simp only [evalL,Act.eval];cases x<;>simp [R,okV]
 | global g=>
  simp only [evalL,Act.eval];split
  ·rename_i n f h
   obtain ⟨h1,h2⟩:=hg g n f h;simp only [R,okV]
   grind
  ·simp [R,okV]
 |func f=>simp only [evalL,Act.eval,R,RL,okV,okL];exact ⟨⟨#[],rfl,rfl⟩,ak⟩
def T.pick {α:Type}{K:α->Prop}:∀ {t:T α},t.all K->∃x,K x/\t.all (λy=>y=x)
 | .ok x,h=>⟨x,h,rfl⟩
 | .br b t e,h=>by
  cases b with
  |true=>obtain ⟨x,h1,h2⟩:=T.pick<|h.1 rfl;exact ⟨x,h1,λ_=>h2,λhb=>IV⟩
  |false=>obtain ⟨x,h1,h2⟩:=T.pick<|h.2 rfl;exact ⟨x,h1,λhb=>IV,λ_=>h2⟩
 | .req p t,h=>by obtain ⟨x,h1,h2⟩:=T.pick h.2;exact ⟨x,h1,h.1,h2⟩
 | .no,h=>Ab
def cell_of_block {b:aC}{cs:aW}{t:aS}(h:w.heap[b]? =ah (.cells cs t (0,0))) (o:aC):w.cell? ⟨b,o,aj⟩=cs[o]? :=by
 simp [World.cell?,h]
def frozen_of_block {b:aC}{cs:aW}{t:aS}(h:w.heap[b]? =ah (.cells cs t (0,0))) (o:aC):w.frozen? ⟨b,o,aj⟩=false:=by
 simp [World.frozen?,h]
def addr_add (b o i:aC):Addr.add ⟨b,o,aj⟩ i=⟨b,o+i,aj⟩:=by
 unfold Addr.add;split
 ·grind
 ·rfl
def run_isAgg {t:aS}{b:aL}(h:aggT P t=ah b) (w:aO):(isAgg t).run P w=.ok b w:=by
 unfold aggT at h;cases hu:P.underlying t with
 |none=>simp [hu] at h
 |some d=>
  unfold isAgg;simp only [cH,Bw hu,cR];cases d<;>simp_all
def run_sizeOf {t:aS}{n:aC}(h:sizeT P t=ah n) (w:aO):(sizeOf t).run P w=.ok n w:=by
 unfold sizeT at h;cases hu:P.info? t with
 |none=>simp [hu] at h
 |some d=>
  simp only [hu,Gx,Ac] at h
  simp [sizeOf,typeInfo,hu,h]
def run_zero {t:aS}{z:aV}(h:zeroT P t=ah z) (w:aO):(zeroValue t).run P w=.ok z w:=by
 unfold zeroT at h;cases hu:P.info? t with
 |none=>simp [hu] at h
 |some d=>
  simp only [hu,LZ] at h
  simp [zeroValue,typeInfo,hu,h]
def RL.take_drop {l:aD}{ys:aT}(h:RL β Z w l ys) (off n:aC):RL β Z w ((l.drop off).take n) ((ys.drop off).take n):=by
 have hl:=RL.length h
 refine RL.of_get A8 λi x hx=>?_
 rw [IP] at hx|-;split at hx
 ·rename_i hi
  rw [AD hi];rw [DX] at hx|-;exact RL.get _ _ h hx
 ·cases hx
def okL.take_drop {n:aC}{l:aD}(h:okL n l) (off m:aC):okL n ((l.drop off).take m):=by
 refine okL.of_get λi x hx=>?_
 rw [IP] at hx;split at hx
 ·rw [DX] at hx;exact okL.get _ _ h hx
 ·cases hx
def RF.mono {β':aC->aL1}{Z':aC->Prop}{w':aO}{n m:aC}(hF:RF ds β Z w n F a) (hn:n<=m) (hβ:∀k,k<n->β' k=β k) (hZ:∀b,Z b->Z' b)
  (hw:∀b,Z b->w'.heap[b]? =w.heap[b]?):RF ds β' Z' w' m F a:=
 ⟨hF.size,λt x hx=>⟨R.mono hβ hZ hw x _ (hF.get t x hx).2 (hF.get t x hx).1,okV.mono hn x (hF.get t x hx).2⟩,hF.defers.1,λd hd=>by
  obtain ⟨D,h1,h2,h3⟩:=hF.defers.2 d hd;exact ⟨D,h1,hZ D h2,by unfold MkAt;rw [hw D h2];exact h3⟩⟩
def okB.mono {n m:aC}(h:n<=m) {b:bx}(hb:okB n b):okB m b:=by
 refine ⟨okL.mono h _ hb.1,?_⟩
 have:=hb.2
 split
 ·rename_i hk;rw [hk] at this;exact okL.mono h _ this
 ·trivial
def live_eq {β':aC->aL1}{k:aC}{b:bx}(h:β' k=β k):live β' k b=live β k b:=by
 unfold live;rw [h]
def BlkR.keep {β':aC->aL1}{Z':aC->Prop}{w':aO}{n k:aC}{b:bx}(hβ:∀k,k<n->β' k=β k) (hZ:∀b,Z b->Z' b) (hw:∀b,Z b->w'.heap[b]? =w.heap[b]?) (hk:β' k=β k)
  (hb:live β k b->w'.heap[(β k).b]? =w.heap[(β k).b]?) (hok:okB n b) (h:BlkR β Z w k b):BlkR β' Z' w' k b:=by
 unfold BlkR at*;unfold live at hb;unfold okB at hok;rw [hk];split at h
 ·rename_i hbk
  obtain ⟨cs,h1,h2⟩:=h;exact ⟨cs,A8,RL.mono hβ hZ hw _ _ hok.1 h2⟩
 ·rename_i e l hbk
  simp only [hbk] at hb|-;split at h
  ·rename_i hc
   grind
  ·rename_i c hc
   have hb':=hb (by rw [hc];simp)
   obtain ⟨cs,h1,h2,h3,h4⟩:=h;exact ⟨cs,A8,h2,h3,λi d hd=>RD.keep hZ hw e d _ _ hb'<|h4 i d hd⟩
 ·rename_i kd ks vs hbk
  simp only [hbk] at hb hok|-;obtain ⟨es,clock,h1,h2,h3⟩:=h;exact ⟨es,clock,A8,h2,RL.mono hβ hZ hw _ _ hok.2 h3⟩
 ·rename_i ps asg body st hbk
  obtain ⟨r,h1,h2,h3,h4,h5,h6⟩:=h;exact ⟨r,A8,h2,h3,h4,h5,RL.mono hβ hZ hw _ _ hok.1 h6⟩
 ·rename_i e l hbk
  grind
 ·rename_i hbk
  grind
def RW.lt (hW:RW G w0 Z0 Z β H w) {k:aC}{b:bx}(hk:H[k]? =ah b) (hl:live β k b):(β k).b<w.heap.size:=by
 have h:=(hW.blk k b hk).1
 unfold BlkR at h;unfold live at hl;split at h
 ·obtain ⟨cs,h1,_⟩:=h
  grind
 ·rename_i hbk
  split at h
  ·grind
  ·obtain ⟨cs,h1,_⟩:=h
   grind
 ·obtain ⟨es,clock,h1,_⟩:=h
  grind
 ·obtain ⟨r,h1,_⟩:=h
  grind
 ·obtain ⟨es,clock,h1,_⟩:=h
  grind
 ·rename_i hbk
  grind
def below_block {w w':aO}(hb:Below w.heap.size w w') {b:aC}(h:b<w.heap.size):w'.heap[b]? =w.heap[b]? :=hb.block b h
def GlOk.mono {Z':aC->Prop}{w':aO}(h:GlOk G Z w) (hZ:∀b,Z b->Z' b) (hw:∀b,Z b->w'.heap[b]? =w.heap[b]?):GlOk G Z' w':=λg n f hg=>by
 obtain ⟨h1,h2⟩:=h g n f hg;exact ⟨hZ _ h1,λj hj=>by rw [cell_block<|hw g h1];exact h2 j hj⟩
def RW.call {w':aO}(hW:RW G w0 Z0 Z β H w) (hb:Below w.heap.size w w'):RW G w0 Z0 (λb=>Z b\/(w.heap.size<=b/\b<w'.heap.size)) β H w':=by
 have hs:=hb.size
 have h0:=hW.below.size
 have hw:∀b,Z b->w'.heap[b]? =w.heap[b]? :=λb hz=>below_block hb<|hW.zlt b hz
 refine ⟨hW.below.trans<|hb.mono h0,λb hz=>?_,λb hz=>?_,λk b hk hl hp hz=>?_,λk b hk hl hp=> .inl<|hW.zpub k b hk hl hp,hW.low,hW.inj,λk b hk=>?_,hW.glob.mono (λ_ h=> .inl h) hw,λp hp=>⟨R.mono (n:=M H) (λ_ _=>rfl) (λ_ h=> .inl h) hw _ _ (hW.gh p hp).2 (hW.gh p hp).1,(hW.gh p hp).2⟩,λD hD=>⟨.inl (hW.mks D hD).1,Vu⟩⟩
 ·rcases hz with hz|hz
  ·have:=hW.zlt b hz;omega
  ·exact hz.2
 ·rcases hz with hz|hz
  ·exact hW.znew b hz
  ·omega
 ·rcases hz with hz|hz
  ·exact hW.zown k b hk hl hp hz
  ·have:=hW.lt hk hl;omega
 ·obtain ⟨h1,h2⟩:=hW.blk k b hk
  exact ⟨h1.keep (λ_ _=>rfl) (λ_ h=> .inl h) hw rfl (λhl=>below_block hb<|hW.lt hk hl) h2,h2⟩
def RW.same {w':aO}(hW:RW G w0 Z0 Z β H w) (hb:Below w.heap.size w w'):RW G w0 Z0 Z β H w':=by
 have hs:=hb.size
 have h0:=hW.below.size
 have hw:∀b,Z b->w'.heap[b]? =w.heap[b]? :=λb hz=>below_block hb<|hW.zlt b hz
 refine ⟨hW.below.trans<|hb.mono h0,λb hz=>?_,hW.znew,hW.zown,hW.zpub,hW.low,hW.inj,λk b hk=>?_,hW.glob.mono (λ_ h=>h) hw,λp hp=>⟨R.mono (n:=M H) (λ_ _=>rfl) (λ_ h=>h) hw _ _ (hW.gh p hp).2 (hW.gh p hp).1,(hW.gh p hp).2⟩,λD hD=>⟨(hW.mks D hD).1,Vu⟩⟩
 ·have:=hW.zlt b hz;omega
 ·obtain ⟨h1,h2⟩:=hW.blk k b hk
  exact ⟨h1.keep (λ_ _=>rfl) (λ_ h=>h) hw rfl (λhl=>below_block hb<|hW.lt hk hl) h2,h2⟩
def RW.adopt {ℓ:aL1}{nb:bx}(hW:RW G w0 Z0 Z β H w) (hp:nb.p=X) (hok:okB (M H+1) nb)
  (hf:live (λ_=>ℓ) 0 nb->¬Z ℓ.b/\w0.heap.size<=ℓ.b/\∀j bj,H[j]? =ah bj->live β j bj->(β j).b≠ℓ.b)
  (hB:∀β':aC->aL1,(∀k,k<M H->β' k=β k)->β' (M H)=ℓ->BlkR β' Z w (M H) nb):
  ∃β',(∀k,k<M H->β' k=β k)/\β' (M H)=ℓ/\RW G w0 Z0 Z β' (H++[nb]) w:=by
 let β':aC->aL1:=λk=>if k=M H then ℓ else β k
 have hb':∀k,k<M H->β' k=β k:=λk hk=>A8
 have hbn:β' (M H)=ℓ:=by simp [β']
 have hlive:live β' (M H) nb=live (λ_=>ℓ) 0 nb:=by unfold live;rw [hbn]
 have old:∀k b,(H++[nb])[k]? =ah b->(k<M H/\H[k]? =ah b/\β' k=β k)\/(k=M H/\b=nb):=λk b h=>by
  by_cases hk:k<M H
  ·grind
  ·have hkl:k=M H:=A8
   subst hkl
   simp at h
   exact .inr ⟨rfl,h.symm⟩
 refine ⟨β',hb',hbn,hW.below,hW.zlt,hW.znew,λk b hk hl hp'=>?_,λk b hk hl hp'=>?_,λk b hk hl=>?_,λi j bi bj hi hj li lj hpi e=>?_,λk b hk=>?_,hW.glob,λp hp=>⟨R.mono hb' (λ_ h=>h) (λ_ _=>rfl) _ _ (hW.gh p hp).2 (hW.gh p hp).1,okV.mono AH _ (hW.gh p hp).2⟩,hW.mks⟩
 ·rcases old k b hk with ⟨h1,h2,h3⟩ |⟨rfl,rfl⟩
  ·rw [h3];rw [live_eq h3] at hl;exact hW.zown k b h2 hl hp'
  ·grind
 ·rcases old k b hk with ⟨h1,h2,h3⟩ |⟨rfl,rfl⟩
  ·rw [h3];rw [live_eq h3] at hl;exact hW.zpub k b h2 hl hp'
  ·rw [hp] at hp';cases hp'
 ·rcases old k b hk with ⟨h1,h2,h3⟩ |⟨rfl,rfl⟩
  ·rw [h3];rw [live_eq h3] at hl;exact hW.low k b h2 hl
  ·grind
 ·rcases old i bi hi with ⟨h1,h2,h3⟩ |⟨rfl,rfl⟩
  ·rw [live_eq h3] at li
   rcases old j bj hj with ⟨g1,g2,g3⟩ |⟨rfl,rfl⟩
   ·rw [live_eq g3] at lj;rw [h3,g3] at e;exact hW.inj i j bi bj h2 g2 li lj hpi e
   ·grind
  ·rw [hlive] at li
   rcases old j bj hj with ⟨g1,g2,g3⟩ |⟨rfl,rfl⟩
   ·rw [live_eq g3] at lj;rw [hbn,g3] at e;exact absurd e.symm<|(hf li).2.2 j bj g2 lj
   ·rfl
 ·have hlen:M (H++[nb])=M H+1:=AH
  rw [hlen];rcases old k b hk with ⟨h1,h2,h3⟩ |⟨rfl,rfl⟩
  ·obtain ⟨g1,g2⟩:=hW.blk k b h2
   exact ⟨g1.keep hb' (λ_ h=>h) (λ_ _=>rfl) h3 (λ_=>rfl) g2,g2.mono A0⟩
  ·grind
def RW.set {w':aO}{k:aC}{b nb:bx}(hW:RW G w0 Z0 Z β H w) (hk:H[k]? =ah b) (hl:live β k b) (hp:b.p=X) (hnp:nb.p=X) (hok:okB (M H) nb)
  (hsz:w'.heap.size=w.heap.size) (hos:w'.os=w.os/\w'.tape=w.tape/\w'.output=w.output) (hne:∀j,j≠(β k).b->w'.heap[j]? =w.heap[j]?) (hB:BlkR β Z w' k nb):RW G w0 Z0 Z β (H.set k nb) w':=by
 have hw:∀b',Z b'->w'.heap[b']? =w.heap[b']? :=λb' hz=>hne b' λe=>hW.zown k b hk hl hp<|e▸hz
 have old:∀i bi,(H.set k nb)[i]? =ah bi->(i=k/\bi=nb)\/(i≠k/\H[i]? =ah bi):=λi bi h=>by
  rw [Fm] at h;split at h
  ·rename_i e
   grind
  ·grind
 refine ⟨?_,λb' hz=>aKS,hW.znew,λi bi hi li pi=>?_,λi bi hi li pi=>?_,λi bi hi li=>?_,λi j bi bj hi hj li lj pi e=>?_,λi bi hi=>?_,hW.glob.mono (λ_ h=>h) hw,λp hp=>⟨R.mono (n:=M H) (λ_ _=>rfl) (λ_ h=>h) hw _ _ (hW.gh p hp).2 (hW.gh p hp).1,aKY⟩,λD hD=>⟨(hW.mks D hD).1,Vu⟩⟩
 ·refine hW.below.trans ⟨hos.1,hos.2.1,hos.2.2,cq hsz.symm,λi hi=>hne i ?_⟩
  have:=hW.low k b hk hl
  omega
 ·rcases old i bi hi with ⟨rfl,rfl⟩ |⟨h1,h2⟩
  ·exact hW.zown _ b hk hl hp
  ·exact hW.zown i bi h2 li pi
 ·rcases old i bi hi with ⟨rfl,rfl⟩ |⟨h1,h2⟩
  ·grind
  ·exact hW.zpub i bi h2 li pi
 ·rcases old i bi hi with ⟨rfl,rfl⟩ |⟨h1,h2⟩
  ·exact hW.low _ b hk hl
  ·exact hW.low i bi h2 li
 ·rcases old i bi hi with ⟨rfl,rfl⟩ |⟨h1,h2⟩
  ·rcases old j bj hj with ⟨rfl,rfl⟩ |⟨g1,g2⟩
   ·rfl
   ·exact hW.inj _ j b bj hk g2 hl lj hp e
  ·rcases old j bj hj with ⟨rfl,rfl⟩ |⟨g1,g2⟩
   ·exact hW.inj i _ bi b h2 hk li hl pi e
   ·exact hW.inj i j bi bj h2 g2 li lj pi e
 ·rw [BR]
  rcases old i bi hi with ⟨rfl,rfl⟩ |⟨h1,h2⟩
  ·grind
  ·obtain ⟨g1,g2⟩:=hW.blk i bi h2
   refine ⟨g1.keep (λ_ _=>rfl) (λ_ h=>h) hw rfl (λli=>hne _ λe=>?_) g2,g2⟩
   exact h1 (hW.inj k i b bi hk h2 hl li hp e.symm).symm
def RW.alloc {cs:aD}{vs:aW}{t:aS}(hW:RW G w0 Z0 Z β H w) (hr:RL β Z w cs vs.toList) (hk:okL (M H) cs):
  ∃β',(∀k,k<M H->β' k=β k)/\(β'<|M H).b=w.heap.size/\RW G w0 Z0 Z β' (H++[⟨cs,t,.cl,X⟩]) (w.alloc<|.cells vs t)/\(∀b,Z b->(w.alloc<|.cells vs t).heap[b]? =w.heap[b]?):=by
 have hbw:Below w.heap.size w (w.alloc<|.cells vs t):=(Below.refl _ _).alloc (Ar _) _
 have hw:∀b,Z b->(w.alloc<|.cells vs t).heap[b]? =w.heap[b]? :=λb hz=>below_block hbw<|hW.zlt b hz
 obtain ⟨β',h1,h2,h3⟩:=(hW.same hbw).adopt (ℓ:=⟨w.heap.size,0,aj⟩) (nb:=⟨cs,t,.cl,X⟩) rfl ⟨okL.mono A0 _ hk,ak⟩ (λ_=>⟨λhz=>Vn,hW.below.size,λj bj hj lj e=>OQ⟩) (λβ' h1 h2=>by
  simp only [BlkR,h2];refine ⟨vs,?_,RL.mono h1 (λ_ h=>h) hw _ _ hk hr⟩
  show (w.heap.push _)[w.heap.size]? =_
  simp)
 grind
def lvB (β:aC->aL1) (H:aE) (ks:aH):aH:=(ks.filter λk=>@decide (∃b,H[k]? =ah b/\live β k b/\b.p=X)<|Classical.propDecidable _).map λk=>(β k).b
def mem_lvB {ks:aH}{x:aC}:x∈lvB β H ks↔∃k b,k∈ks/\H[k]? =ah b/\live β k b/\b.p=X/\x=(β k).b:=by
 unfold lvB;simp only [Dp,Fs]
 constructor
 ·rintro ⟨k,⟨h1,h2⟩,h3⟩
  grind
 ·rintro ⟨k,b,h1,h2,h3,h4,h5⟩
  grind
def lvB_one {k:aC}{b:bx}(hb:H[k]? =ah b) (hl:live β k b) (hp:b.p=X):(β k).b∈lvB β H [k]:=mem_lvB.2 ⟨k,b,AH,hb,hl,hp,rfl⟩
end Go.Sx
namespace Go.Sx
open Go.Proofs.YtjjcgjkagokchaaGreatDoor
open Go Go.RowKit
variable {P : Program} {G : Globs} {Γ : Specs} {β : Nat -> Loc} {Z : Nat -> Prop} {Z0 : Gz} {w w0 : World} {F : List LV} {H : List Blk} {a : Act}
def RD.cells {Z Z':aC->Prop}{w w':aO}(hZ:∀b,Z b->Z' b) (hw:∀b,Z b->w'.heap[b]? =w.heap[b]?):
  ∀(t:Ty) (d:t.D) (b o:aC),(∀j,j<t.n->w'.cell? ⟨b,o+j,aj⟩=w.cell? ⟨b,o+j,aj⟩)->RD Z w t d b o->RD Z' w' t d b o
 | .int _,_,b,o,hb,h=>Qh
 | .bool,_,b,o,hb,h=>Qh
 | .str,_,b,o,hb,h=>Qh
 | .sl e,l,b,o,hb,h=>by
  exact aIF
 | .pair x y,d,b,o,hb,h=>by
  refine ⟨RD.cells hZ hw x d.1 b o (λj hj=>hb j dd) h.1,RD.cells hZ hw y d.2 b _ (λj hj=>?_) h.2⟩
  have:=hb (x.n+j) dd
  grind
def getD_lt {l:aD}{j:aC}(h:j<M l):l[j]? =ah (l.getD j .junk):=A8
def getD_ok {n:aC}{l:aD}(h:okL n l) (j:aC):okV n (l.getD j .junk):=by
 cases hq:l[j]? with
 |none=>simp [List.getD,hq,okV]
 |some q=>simp only [List.getD,hq,cK];exact okL.get _ _ h hq
def getD_at {e:Ty}{l:List e.D}{i:aC}(h:i<M l):l[i]? =ah (l.getD i e.dflt):=A8
def load_row {b off n:aC}{L:aD}(hL:M L=n) (hc:∀q,q<n->∃z,w.cell? ⟨b,off+q,aj⟩=ah z/\R β Z w (L.getD q .junk) z):
  ∃zs:aT,M zs=n/\RL β Z w L zs/\∀w':aO,w'.heap[b]? =w.heap[b]? ->(loadCells ⟨b,off,aj⟩ n).run P w'=.ok zs.toArray w':=by
 have hch:∀j,∃z,j<n->w.cell? ⟨b,off+j,aj⟩=ah z/\R β Z w (L.getD j .junk) z:=λj=>by
  by_cases hj:j<n
  ·grind
  ·exact ⟨undef,λh=>absurd h hj⟩
 obtain ⟨g,hg⟩:=qD hch;refine ⟨(au n).map g,AH,RL.of_get A8 λi x hx=>?_,λw' hw'=>?_⟩
 ·have hi:i<n:=A8
  refine ⟨g i,A8,?_⟩
  grind
 ·have hld:=run_loadCells (P:=P) w' ⟨b,off,aj⟩ n g (λj hj=>by rw [addr_add,cell_block (w:=w) (w':=w') hw'];exact (hg j hj).1)
  grind
def loadL_sound {t:aS}{x lv:LV}{y:aV}(hW:RW G w0 Z0 Z β H w) (h:(loadL P H t x).all λz=>z=lv) (hr:R β Z w x y) (hk:okV (M H) x):
  ∃z,(∀w',(∀b,(Z b\/∃k,k∈owns x/\b=(β k).b)->w'.heap[b]? =w.heap[b]?)->(Instr.loadAt t y).run P w'=.ok z w')/\R β Z w lv z/\okV (M H) lv:=by
 have ownCl:∀(k:aC) (b:bx),H[k]? =ah b->b.isCl=U->∃cs,w.heap[(β k).b]? =ah (.cells cs b.t (0,0))/\RL β Z w b.c cs.toList/\okL (M H) b.c:=λk b hb hc=>by
  obtain ⟨h1,h2⟩:=hW.blk k b hb;unfold BlkR at h1;unfold Blk.isCl at hc;split at hc
  ·rename_i hk'
   simp only [hk'] at h1;obtain ⟨cs,h3,h4⟩:=h1;exact ⟨cs,h3,h4,h2.1⟩
  ·cases hc
 have vecAt:∀(k es i:aC) (c:aD) (t:aS) (e:Ty) (l:List e.D) (p:aL),H[k]? =ah ⟨c,t,.vec e l,p⟩->(β k).cap≠aj->e.n=es->i<M l->∀q,q<es->∃z,w.cell? ⟨(β k).b,(β k).o+i*es+q,aj⟩=ah z/\R β Z w ((encL e<|l.getD i e.dflt).getD q .junk) z:=λk es i c t e l p hb hcap hes hi q hq=>by
  have h1:=(hW.blk k _ hb).1
  simp only [BlkR] at h1;split at h1
  ·exact rM
  ·obtain ⟨cs,_,_,_,h4⟩:=h1
   have h5:=h4 i _<|getD_at hi
   subst hes;exact encL_R e _ _ _ h5 q _<|getD_lt (by rw [encL_length];exact hq)
 unfold loadL at h;split at h
 ·rename_i n hag hsz
  have e1:=λw=>run_isAgg hag w
  have e2:=λw=>run_sizeOf hsz w
  split at h
  ·rename_i k off
   split at h
   ·rename_i b hb
    split at h
    ·rename_i hle
     simp only [T.all] at h;obtain ⟨cs,hc,hrl,hok⟩:=ownCl k b hb hle.1;simp only [R] at hr
     have hlen:=RL.length hrl
     have hn:M ((b.c.drop off).take n)=n:=CN
     obtain ⟨zs,f1,f2,f3⟩:=load_row (P:=P) (β:=β) (Z:=Z) (w:=w) (b:=(β k).b) (off:=off) (L:=(b.c.drop off).take n) hn (λq hq=>by
      have hlt:off+q<M b.c:=A0
      obtain ⟨z,h1,h2⟩:=RL.get _ _ hrl<|Cs hlt;refine ⟨z,aK5,?_⟩
      have:((b.c.drop off).take n).getD q .junk=b.c[off+q]:=by
       grind
      rw [this];exact h2)
     refine ⟨.agg zs.toArray,λw' hw'=>?_,?_,?_⟩
     ·have:=f3 w' (hw' (β k).b<|.inr ⟨k,GI,rfl⟩)
      simp [Instr.loadAt,Instr.sureAddr,hr,loadVar,e1,e2,this]
     ·exact qq
     ·rw [<-h];exact mkAgg_ok<|hok.take_drop off n
    ·cases h
   ·cases h
  ·rename_i m f
   split at h
   ·rename_i hle
    simp only [T.all] at h;simp only [R] at hr;obtain ⟨b,off,e3,hz,e4⟩:=hr;simp only [okV] at hk
    obtain ⟨zs,f1,f2,f3⟩:=load_row (P:=P) (β:=β) (Z:=Z) (w:=w) (b:=b) (off:=off) (L:=(au n).map f) (n:=n) AH (λq hq=>by
     obtain ⟨z,h1,h2⟩:=e4 q A0;exact ⟨z,h1,by simpa [List.getD,hq] using h2⟩)
    refine ⟨.agg zs.toArray,λw' hw'=>?_,?_,?_⟩
    ·have:=f3 w' (hw' b<|.inl hz)
     simp [Instr.loadAt,Instr.sureAddr,e3,loadVar,e1,e2,this]
    ·exact qq
    ·rw [<-h]
     refine mkAgg_ok<|okL.of_get λi x hx=>?_
     have hi:i<n:=by have:=(Ce.1 hx).1;simpa using this
     have:x=f i:=by simpa [hi] using hx.symm
     rw [this];exact okV.mono (K6 _) _<|hk i
   ·cases h
  ·rename_i k es i j
   split at h
   ·rename_i c t' e l p hb
    split at h
    ·rename_i hle
     simp only [T.all] at h;obtain ⟨hi,h⟩:=h;simp only [R] at hr
     have hva:=vecAt k es i c t' e l p hb hr.1 hle.1 hi
     have hlen:M (encL e<|l.getD i e.dflt)=es:=by rw [encL_length];exact hle.1
     obtain ⟨zs,f1,f2,f3⟩:=load_row (P:=P) (β:=β) (Z:=Z) (w:=w) (b:=(β k).b) (off:=(β k).o+i*es+j) (L:=((encL e<|l.getD i e.dflt).drop j).take n) (n:=n) (by rw [IN,DV,hlen];omega) (λq hq=>by
      obtain ⟨z,h1,h2⟩:=hva (j+q) A0;refine ⟨z,by rw [FM _ j q];exact h1,?_⟩
      have:(((encL e<|l.getD i e.dflt).drop j).take n).getD q .junk=(encL e<|l.getD i e.dflt).getD (j+q) .junk:=by
       generalize encL e (l.getD i e.dflt)=L
       grind
      rw [this];exact h2)
     refine ⟨.agg zs.toArray,λw' hw'=>?_,?_,?_⟩
     ·have:=f3 w' (hw' (β k).b<|.inr ⟨k,GI,rfl⟩)
      simp [Instr.loadAt,Instr.sureAddr,hr.2,loadVar,e1,e2,this]
     ·exact qq
     ·rw [<-h];exact mkAgg_ok<|(encL_ok _ e _).take_drop j n
    ·cases h
   ·cases h
  ·cases h
 ·rename_i _ hag
  have e1:=λw=>run_isAgg hag w
  split at h
  ·rename_i k off
   split at h
   ·rename_i b hb
    split at h
    ·rename_i hcl
     split at h
     ·rename_i z hz
      simp only [T.all] at h;obtain ⟨cs,hc,hrl,hok⟩:=ownCl k b hb hcl;simp only [R] at hr;obtain ⟨q,h1,h2⟩:=RL.get _ _ hrl hz;refine ⟨q,λw' hw'=>?_,?_,?_⟩
      ·have:w'.cell? ⟨(β k).b,off,aj⟩=ah q:=by rw [cell_of_block (by rw [hw' (β k).b<|.inr ⟨k,GI,rfl⟩];exact hc)];simpa using h1
       simp [Instr.loadAt,Instr.sureAddr,hr,loadVar,e1,this]
      ·rw [<-h];exact h2
      ·rw [<-h];exact okL.get _ _ hok hz
     ·cases h
    ·cases h
   ·cases h
  ·rename_i m f
   split at h
   ·rename_i hm
    simp only [T.all] at h;simp only [R] at hr;obtain ⟨b,off,e3,hz,e4⟩:=hr;obtain ⟨z,h1,h2⟩:=e4 0 hm;refine ⟨z,λw' hw'=>?_,?_,?_⟩
    ·have:w'.cell? ⟨b,off,aj⟩=ah z:=by rw [cell_block (w:=w) (w':=w')<|hw' b<|.inl hz];simpa using h1
     simp [Instr.loadAt,Instr.sureAddr,e3,loadVar,e1,this]
    ·rw [<-h];exact h2
    ·rw [<-h];simp only [okV] at hk;exact okV.mono (K6 _) _<|hk 0
   ·cases h
  ·rename_i k es i j
   split at h
   ·rename_i c t' e l p hb
    split at h
    ·rename_i hes
     simp only [T.all] at h;obtain ⟨hi,h⟩:=h;split at h
     ·rename_i q hq
      simp only [T.all] at h;simp only [R] at hr
      have hj:j<es:=by
       have:=(Ce.1 hq).1
       rw [encL_length] at this;omega
      obtain ⟨z,h1,h2⟩:=vecAt k es i c t' e l p hb hr.1 hes hi j hj
      have hqq:(encL e<|l.getD i e.dflt).getD j .junk=q:=DE<|(getD_lt (Ce.1 hq).1).symm.trans hq
      rw [hqq] at h2;refine ⟨z,λw' hw'=>?_,?_,?_⟩
      ·have:w'.cell? ⟨(β k).b,(β k).o+i*es+j,aj⟩=ah z:=by rw [cell_block (w:=w) (w':=w')<|hw' (β k).b<|.inr ⟨k,GI,rfl⟩];exact h1
       simp [Instr.loadAt,Instr.sureAddr,hr.2,loadVar,e1,this]
      ·rw [<-h];exact h2
      ·rw [<-h];exact okL.get _ _ (encL_ok _ e _) hq
     ·cases h
    ·cases h
   ·cases h
  ·cases h
 ·cases h
end Go.Sx
namespace Go.Sx
open Go.Proofs.YtjjcgjkagokchaaGreatDoor
open Go Go.RowKit
variable {P : Program} {G : Globs} {Γ : Specs} {β : Nat -> Loc} {Z : Nat -> Prop} {Z0 : Gz} {w w0 : World} {F : List LV} {H : List Blk} {a : Act}
def oneB_one {z:aV}(h:oneB z=U):z.oneCell'=true:=by cases z<;>first|rfl|(simp [oneB] at h)
def setRow_block (w:aO) (g:aC) (cs:aW) (k:aC) (h:k≠g):(w.setRow g cs).heap[k]? =w.heap[k]? :=by
 simp only [World.setRow,Array.getElem?_modify]
 grind
def RL.app:∀ {a b:aD}{c d:aT},RL β Z w a c->RL β Z w b d->RL β Z w (a++b) (c++d)
 | [],_,_,_,h,h'=>by simp only [RL] at h;subst h;simpa using h'
 |x::xs,_,_,d,h,h'=>by
  obtain ⟨y,zs,rfl,h3,h4⟩:=h;exact ⟨y,zs++d,rfl,h3,RL.app h4 h'⟩
def RL.drop {l:aD}{ys:aT}(h:RL β Z w l ys) (n:aC):RL β Z w (l.drop n) (ys.drop n):=by
 refine RL.of_get (by simp [RL.length h]) λi z hz=>?_
 rw [DX] at hz|-;exact RL.get _ _ h hz
def RL.take {l:aD}{ys:aT}(h:RL β Z w l ys) (n:aC):RL β Z w (l.take n) (ys.take n):=by simpa using h.take_drop 0 n
def RL.setAt {l cs:aD}{ys zs:aT}(h1:RL β Z w l ys) (h2:RL β Z w cs zs) (off:aC):RL β Z w (setAt l off cs) (ys.take off++zs++ys.drop (off+M zs)):=by
 have e2:=RL.length h2
 rw [e2];exact RL.app (RL.app (h1.take off) h2)<|h1.drop _
def okL.append {n:aC}:∀ {a b:aD},okL n a->okL n b->okL n (a++b)
 | [],_,_,h=>h
 |_::_,_,h,h'=>⟨h.1,okL.append h.2 h'⟩
def okL.drop {n:aC}{l:aD}(h:okL n l) (m:aC):okL n (l.drop m):=by
 refine okL.of_get λi x hx=>?_
 rw [DX] at hx;exact okL.get _ _ h hx
def okL.setAt {n:aC}{l cs:aD}(h1:okL n l) (h2:okL n cs) (off:aC):okL n (setAt l off cs):=by
 refine okL.append (okL.append ?_ h2)<|h1.drop _
 have:=h1.take_drop 0 off;simpa using this
def hd1_some {α:Type}{f:LV->Option α}{l:aD}{d:α}(h:hd1 f l=ah d):∃x,l=[x]/\f x=ah d:=by
 unfold hd1 at h;exact dG
def castL_R {a b:Ty}(h:a=b) (l:List a.D) {y:aV}:R β Z w (.xl b<|castL h l) y↔R β Z w (.xl a l) y:=by subst h;rfl
def decX_R {e:Ty}{x:LV}{l:List e.D}{y:aV}(h:decX e x=ah l) (hr:R β Z w x y):R β Z w (.xl e l) y:=by
 unfold decX at h;split at h
 ·split at h
  ·rename_i q h'
   simp only [Ac] at h;subst h;exact (castL_R q _).2 hr
  ·cases h
 ·simp only [Ac] at h
  simp only [R] at hr|-
  grind
 ·cases h
def decL_R {Z':aC->Prop}{w':aO}(hZ:∀b,Z b->Z' b) (hw:∀b,Z b->w'.heap[b]? =w.heap[b]?):∀(t:Ty) (cs:aD) (d:t.D) (ys:aT),decL t cs=ah d->RL β Z w cs ys->∀(b o:aC),(∀(j:aC) v,ys[j]? =ah v->w'.cell? ⟨b,o+j,aj⟩=ah v)->RD Z' w' t d b o:=by
 have one:∀ {l:aD} {ys:aT} {x:LV},l=[x]->RL β Z w l ys->∀ {b o:aC},(∀(j:aC) v,ys[j]? =ah v->w'.cell? ⟨b,o+j,aj⟩=ah v)->∃y,R β Z w x y/\w'.cell? ⟨b,o,aj⟩=ah y:=by
  intro l ys x hl hr b o hc;subst hl;simp only [RL] at hr;obtain ⟨y,zs,rfl,h1,_⟩:=hr;exact ⟨y,h1,hc 0 y rfl⟩
 intro t
 induction t with
 | int k=>
  intro cs d ys h hr b o hc;obtain ⟨x,hl,hx⟩:=hd1_some h;obtain ⟨y,h1,h2⟩:=one hl hr hc;simp only [RD];rw [h2];unfold decI at hx;split at hx
  ·exact aIv
  ·exact aIv
  ·cases hx
 |bool=>
  intro cs d ys h hr b o hc;obtain ⟨x,hl,hx⟩:=hd1_some h;obtain ⟨y,h1,h2⟩:=one hl hr hc;simp only [RD];rw [h2];unfold decB at hx;split at hx
  ·exact qv
  ·exact qv
  ·cases hx
 |str=>
  intro cs d ys h hr b o hc;obtain ⟨x,hl,hx⟩:=hd1_some h;obtain ⟨y,h1,h2⟩:=one hl hr hc;simp only [RD];rw [h2];unfold decS at hx;split at hx
  ·exact qv
  ·cases hx
 |sl e _=>
  intro cs d ys h hr b o hc;obtain ⟨x,hl,hx⟩:=hd1_some h;obtain ⟨y,h1,h2⟩:=one hl hr hc
  have h3:=decX_R hx h1
  simp only [R] at h3;obtain ⟨a,cap,g1,g2,g3⟩:=h3;simp only [RD];refine ⟨a,cap,by rw [h2,g1],g2,λhn=>?_⟩
  obtain ⟨b',o',g4,g5,g6⟩:=g3 hn;exact ⟨b',o',g4,hZ _ g5,λi d hd=>RD.mono hZ hw e d b' _ g5<|g6 i d hd⟩
 | pair p q ihp ihq=>
  intro cs d ys h hr b o hc;simp only [decL] at h;split at h
  ·rename_i x y hx hy
   simp only [Ac] at h;subst h;simp only [RD];refine ⟨ihp _ x _ hx (hr.take p.n) b o λj v hv=>?_,ihq _ y _ hy (hr.drop p.n) b (o+p.n) λj v hv=>?_⟩
   ·exact aJA
   ·rw [DX] at hv
    grind
  ·cases h
def storeL_sound {t:aS} {x q:LV} {y z:aV} {H':aE} (hW:RW G w0 Z0 Z β H w) (h:(storeL P H t x q).all λr=>r=H') (hr:R β Z w x y) (hq:R β Z w q z) (hqk:okV (M H) q):
  ∃w',(Instr.storeAt t y z).run P w=.ok () w'/\RW G w0 Z0 Z β H' w'/\M H'=M H/\(∀b,Z b->w'.heap[b]? =w.heap[b]?)/\Near (lvB β H<|owns x) w w':=by
 unfold storeL at h;split at h
 ·rename_i n cs hsz hcs
  have e2:=λw=>run_sizeOf hsz w
  obtain ⟨c1,c2⟩:=cellsL_R hcs hq
  have c3:=cellsL_ok hcs hqk
  have hlen2:=RL.length c1
  split at h
  ·rename_i k off
   split at h
   ·rename_i b hb
    split at h
    ·rename_i hle
     obtain ⟨hcl,hbp,hl1,hl2⟩:=hle;simp only [T.all] at h
     have hbk:b.k=.cl:=by
      unfold Blk.isCl at hcl;split at hcl
      ·assumption
      ·cases hcl
     have hlive:live β k b:=by unfold live;rw [hbk];trivial
     obtain ⟨h1,h2⟩:=hW.blk k b hb;unfold BlkR at h1;simp only [hbk] at h1;obtain ⟨cur,hc,hrl⟩:=h1
     have hlen:=RL.length hrl
     simp only [R] at hr
     have hst:=qV P (β k).b off b.t z.cells.toList 0 cur w hc (by simp at hlen;omega) λv hv=>oneB_one<|c2 v hv
     have e3:z.cells.size=n:=by simp at hlen2;omega
     have hne:∀j,j≠(β k).b->(w.setRow (β k).b (cur.toList.take (off+0)++z.cells.toList++cur.toList.drop (off+0+M z.cells.toList)).toArray).heap[j]? =w.heap[j]? :=λj hj=>setRow_block w _ _ _ hj
     refine ⟨w.setRow (β k).b (cur.toList.take (off+0)++z.cells.toList++cur.toList.drop (off+0+M z.cells.toList)).toArray,by simp [Instr.storeAt,Instr.sureAddr,hr,storeVar,e2,e3,hst],?_,by rw [<-h];simp,λb' hz=>hne b' λe=>hW.zown k b hb hlive hbp<|e▸hz,⟨rfl,rfl,rfl,Qd,λi _ hi=>hne i λe=>hi<|e▸lvB_one hb hlive hbp⟩⟩
     rw [<-h];refine hW.set hb hlive hbp hbp ⟨okL.setAt h2.1 c3 off,by simp only [hbk]⟩ Qd ⟨rfl,rfl,rfl⟩ hne ?_
     unfold BlkR;simp only [hbk];refine ⟨_,setRow_heap w (β k).b cur _ b.t _ hc,?_⟩;refine RL.mono (n:=M H) (λ_ _=>rfl) (λ_ h=>h) (λb' hz=>hne b' λe=>hW.zown k b hb hlive hbp<|e▸hz) _ _ (okL.setAt h2.1 c3 off) ?_
     have:=RL.setAt (β:=β) (Z:=Z) (w:=w) hrl c1 off
     exact Mv
    ·cases h
   ·cases h
  ·rename_i k es i j
   split at h
   ·rename_i c0 bt e l hb
    split at h
    ·rename_i hle
     obtain ⟨hes,hl1,hl2⟩:=hle;simp only [T.all] at h;obtain ⟨hi,h⟩:=h;split at h
     ·rename_i d hd
      simp only [T.all] at h;simp only [R] at hr;obtain ⟨hcap,hy⟩:=hr
      have hlive:live β k ⟨c0,bt,.vec e l,X⟩:=hcap
      obtain ⟨h1,h2⟩:=hW.blk k _ hb;simp only [BlkR] at h1;split at h1
      ·exact rM
      ·rename_i c hc
       obtain ⟨cur,g1,g2,g3,g4⟩:=h1;subst hes
       have hmul:i*e.n+e.n<=c*e.n:=by
        have:=K5 e.n (show i+1<=c by omega)
        rwa [E6,OE] at this
       have e3:z.cells.size=n:=by simp at hlen2;omega
       have hzl:M z.cells.toList=n:=by simpa using e3
       have hst:=qV P (β k).b ((β k).o+i*e.n+j) bt z.cells.toList 0 cur w g1 (by rw [hzl];omega) λv hv=>oneB_one<|c2 v hv
       simp only [VM] at hst;generalize hnew:(cur.toList.take ((β k).o+i*e.n+j)++z.cells.toList++cur.toList.drop ((β k).o+i*e.n+j+M z.cells.toList)).toArray=new at hst
       have hnget:∀p,new[p]? =if p<(β k).o+i*e.n+j then cur[p]? else if p<(β k).o+i*e.n+j+n then z.cells.toList[p-((β k).o+i*e.n+j)]? else cur[p]? :=λp=>by
        rw [<-hnew]
        by_cases q1:p<(β k).o+i*e.n+j
        ·exact aJK
        ·rw [AE q1]
         simp only [VK]
         by_cases q2:p<(β k).o+i*e.n+j+n
         ·exact aIP
         ·rw [AE q2,EK CN,DX]
          have:(β k).o+i*e.n+j+M z.cells.toList+(p-M (cur.toList.take ((β k).o+i*e.n+j)++z.cells.toList))=p:=by
           simp
           omega
          rw [this]
          simp
       have hnsz:new.size=cur.size:=by
        rw [<-hnew]
        simp
        omega
       have hne:∀q,q≠(β k).b->(w.setRow (β k).b new).heap[q]? =w.heap[q]? :=λq hq=>setRow_block w _ _ _ hq
       have hZw:∀b',Z b'->(w.setRow (β k).b new).heap[b']? =w.heap[b']? :=λb' hz=>hne b' λe=>hW.zown k _ hb hlive rfl<|e▸hz
       have hblk:=setRow_heap w (β k).b cur new bt _ g1
       refine ⟨w.setRow (β k).b new,by simp [Instr.storeAt,Instr.sureAddr,hy,storeVar,e2,e3,hst],?_,by rw [<-h];simp,hZw,⟨rfl,rfl,rfl,Qd,λq _ hq=>hne q λe=>hq<|e▸lvB_one hb hlive rfl⟩⟩
       rw [<-h];refine hW.set hb hlive rfl rfl ⟨ak,ak⟩ Qd ⟨rfl,rfl,rfl⟩ hne ?_;simp only [BlkR,hc];refine ⟨new,hblk,A0,by rw [BR];exact g3,λi' d' hd'=>?_⟩
       by_cases hii:i'=i
       ·subst hii
        have hdd:d'=d:=by
         rw [List.getElem?_set_self<|by exact hi] at hd'
         simpa using hd'.symm
        subst hdd
        have hcells:∃ys,RL β Z w (encL e<|l.getD i' e.dflt) ys/\∀p,ys[p]? =if p<e.n then cur[(β k).o+i'*e.n+p]? else none:=by
         have hrd:=g4 i' _<|getD_at hi
         refine ⟨((cur.toList.drop<|(β k).o+i'*e.n).take e.n),RL.of_get ?_ λp x hx=>?_,λp=>?_⟩
         ·rw [encL_length];simp;omega
         ·obtain ⟨v,q1,q2⟩:=encL_R (β:=β) e _ _ _ hrd p x hx
          have hp:p<e.n:=by have:=(Ce.1 hx).1;rwa [encL_length] at this
          refine ⟨v,?_,q2⟩;rw [cell_of_block g1] at q1;rw [IP,AD hp,DX]
          simpa using q1
         ·rw [IP,DX]
          simp
        obtain ⟨ys,y1,y2⟩:=hcells
        have hset:=RL.setAt y1 c1 j
        refine decL_R (λ_ h=>h) hZw e _ d' _ hd hset _ _ λp v hv=>?_
        rw [cell_of_block hblk,hnget]
        have hyl:M ys=e.n:=by have:=RL.length y1;rw [encL_length] at this;exact this
        by_cases p1:p<j
        ·rw [AD A0]
         rw [DQ,FI CN,aHT p1,y2] at hv;rw [AD A0] at hv;exact hv
        ·by_cases p2:p<j+n
         ·rw [AE A0,AD A0]
          rw [FI CN,EK CN] at hv;rw [<-hv]
          congr 1
          simp
          omega
         ·rw [AE A0,AE A0]
          rw [EK CN,DX,y2] at hv;split at hv
          ·rw [<-hv]
           congr 1
           simp
           omega
          ·cases hv
       ·rw [VS<|Lc hii] at hd'
        refine RD.cells (λ_ h=>h) hZw e d' _ _ (λp hp=>?_)<|g4 i' d' hd'
        rw [cell_of_block hblk,cell_of_block g1,hnget]
        have hsep:i'*e.n+e.n<=i*e.n\/i*e.n+e.n<=i'*e.n:=by
         rcases ck i' i with hlt|hge
         ·left
          have:=K5 e.n (show i'+1<=i by omega)
          rwa [E6,OE] at this
         ·right
          have:=K5 e.n (show i+1<=i' by omega)
          rwa [E6,OE] at this
        split
        ·rfl
        ·rw [AE A0]
     ·cases h
    ·cases h
   ·cases h
  ·cases h
 ·cases h
end Go.Sx
namespace Go.Sx
open Go.Proofs.YtjjcgjkagokchaaGreatDoor
open Go Go.RowKit
variable {P : Program} {G : Globs} {Γ : Specs} {β : Nat -> Loc} {Z : Nat -> Prop} {Z0 : Gz} {w w0 : World} {F : List LV} {H : List Blk} {a : Act}
def RD.move {Z Z':aC->Prop}{w w':aO}(hZ:∀b,Z b->Z' b) (hw:∀b,Z b->w'.heap[b]? =w.heap[b]?):
  ∀(t:Ty) (d:t.D) (b o b' o':aC),(∀j,j<t.n->w'.cell? ⟨b',o'+j,aj⟩=w.cell? ⟨b,o+j,aj⟩)->RD Z w t d b o->RD Z' w' t d b' o'
 | .int _,_,b,o,b',o',hb,h=>Qh
 | .bool,_,b,o,b',o',hb,h=>Qh
 | .str,_,b,o,b',o',hb,h=>Qh
 | .sl e,l,b,o,b',o',hb,h=>by
  exact aIF
 | .pair x y,d,b,o,b',o',hb,h=>by
  refine ⟨RD.move hZ hw x d.1 b o b' o' (λj hj=>hb j dd) h.1,RD.move hZ hw y d.2 b _ b' _ (λj hj=>?_) h.2⟩
  have:=hb (x.n+j) dd
  grind
def RD.one {Z:aC->Prop}{w:aO}:∀(t:Ty) (d:t.D) (b o:aC),RD Z w t d b o->∀j,j<t.n->∃v,w.cell? ⟨b,o+j,aj⟩=ah v/\oneB v=U
 | .int _,_,b,o,h,j,hj=>by
  exact qd
 | .bool,_,b,o,h,j,hj=>by
  exact qd
 | .str,_,b,o,h,j,hj=>by
  exact qd
 | .sl e,_,b,o,h,j,hj=>by
  simp only [Ty.n] at hj
  have:j=0:=A0
  subst this;obtain ⟨a,cap,h1,_⟩:=h;exact ⟨_,h1,rfl⟩
 | .pair x y,d,b,o,h,j,hj=>by
  simp only [Ty.n] at hj
  by_cases hx:j<x.n
  ·exact RD.one x d.1 b o h.1 j hx
  ·obtain ⟨v,h1,h2⟩:=RD.one y d.2 b (o+x.n) h.2 (j-x.n) A0
   grind
def Ty.n_pos:∀t:Ty,0<t.n
 | .int _=>Vm
 | .bool=>Vm
 | .str=>Vm
 | .sl _=>Vm
 | .pair a b=>by have:=Ty.n_pos a;simp only [Ty.n];omega
def row_cells {e:Ty}{l:List e.D}{b o:aC}(h:∀(i:aC) (d:e.D),l[i]? =ah d->RD Z w e d b (o+i*e.n)):
  ∃vs:aT,M vs=M l*e.n/\(∀j,j<M l*e.n->w.cell? ⟨b,o+j,aj⟩=vs[j]?)/\(∀u∈vs,oneB u=U):=by
 have hp:=e.n_pos
 have hch:∀j,∃v,j<M l*e.n->w.cell? ⟨b,o+j,aj⟩=ah v/\oneB v=true:=λj=>by
  by_cases hj:j<M l*e.n
  ·have hi:=Nat.div_lt_of_lt_mul (by rw [Nat.mul_comm];exact hj)
   have hd:=h (j / e.n) _<|getD_at hi
   obtain ⟨v,h1,h2⟩:=RD.one e _ _ _ hd (j%e.n)<|Nat.mod_lt _ hp;refine ⟨v,λ_=>⟨?_,h2⟩⟩
   have:=Nat.div_add_mod j e.n
   grind
  ·exact ⟨undef,λh=>absurd h hj⟩
 obtain ⟨g,hg⟩:=qD hch;refine ⟨(au<|M l*e.n).map g,AH,λj hj=>?_,λu hu=>?_⟩
 ·grind
 ·obtain ⟨j,hj,rfl⟩:=Dp.1 hu
  grind
def row_back {Z':aC->Prop}{w':aO}(hZ:∀b,Z b->Z' b) (hw:∀b,Z b->w'.heap[b]? =w.heap[b]?) {e:Ty}{l:List e.D}{b o b' o':aC}(h:∀(i:aC) (d:e.D),l[i]? =ah d->RD Z w e d b (o+i*e.n)) {vs:aT}
  (hv:∀j,j<M l*e.n->w.cell? ⟨b,o+j,aj⟩=vs[j]?) (hc:∀j,j<M l*e.n->w'.cell? ⟨b',o'+j,aj⟩=vs[j]?):∀(i:aC) (d:e.D),l[i]? =ah d->RD Z' w' e d b' (o'+i*e.n):=λi d hd=>by
 have hi:=(Ce.1 hd).1
 refine RD.move hZ hw e d b (o+i*e.n) b' (o'+i*e.n) (λj hj=>?_)<|h i d hd
 have hlt:i*e.n+j<M l*e.n:=by
  have:=K5 e.n (show i+1<=M l by omega)
  rw [E6,OE] at this;omega
 grind
def srcOf_R {e:Ty}{x:LV}{q:List e.D}{y:aV}(hW:RW G w0 Z0 Z β H w) (h:(srcOf H e x).all λz=>z=q) (hr:R β Z w x y):
  ∃a c,y=.slice a (M q) c/\(0<M q->∃b o,a=ah ⟨b,o,aj⟩/\∀(i:aC) (d:e.D),q[i]? =ah d->RD Z w e d b (o+i*e.n)):=by
 have gen:∀x,decX e x=ah q->R β Z w x y->∃a c,y=.slice a (M q) c/\(0<M q->∃b o,a=ah ⟨b,o,aj⟩/\∀(i:aC) (d:e.D),q[i]? =ah d->RD Z w e d b (o+i*e.n)):=λx hx hr=>by
  have h1:=decX_R hx hr
  obtain ⟨a,c,h1,_,h3⟩:=h1;refine ⟨a,c,h1,λhn=>?_⟩
  grind
 have hdx:∀ {x:LV},(match decX e x with|some l=>(T.ok l:T<|List e.D) |none=> .no).all (λz=>z=q)->decX e x=ah q:=λ{x} h=>by
  split at h
  ·rename_i hd;simp only [T.all] at h;rw [hd,h]
  ·cases h
 cases x with
 | os k es off n=>
  simp only [srcOf] at h;split at h
  ·rename_i c0 bt e' l pp hb
   split at h
   ·rename_i hes
    split at h
    ·rename_i he _
     subst he;simp only [T.all,castL] at h;obtain ⟨hle,h⟩:=h;subst h
     have hlen:M ((l.drop off).take n)=n:=A8
     rw [hlen];simp only [R] at hr;split at hr
     ·obtain ⟨rfl,_,hy⟩:=hr
      grind
     ·rename_i c hc
      obtain ⟨h1,a,h2,h3⟩:=hr;refine ⟨ah a,c-off,h2,λhn=>?_⟩
      have h4:=(hW.blk k _ hb).1
      simp only [BlkR,hc] at h4;obtain ⟨cs,g1,g2,g3,g4⟩:=h4;refine ⟨_,_,by rw [h3 A0],λi d hd=>?_⟩
      rw [IP] at hd;split at hd
      ·rw [DX] at hd
       have:=g4 (off+i) d hd
       rw [<-hes];rw [E6,<-FM] at this;exact this
      ·cases hd
    ·cases h
   ·cases h
  ·cases h
 |v x=>simp only [srcOf] at h;exact gen _ (hdx h) hr
 |bl x=>simp only [srcOf] at h;exact gen _ (hdx h) hr
 |ki k n=>simp only [srcOf] at h;exact gen _ (hdx h) hr
 |own k off=>simp only [srcOf] at h;exact gen _ (hdx h) hr
 |agg l=>simp only [srcOf] at h;exact gen _ (hdx h) hr
 |tup l=>simp only [srcOf] at h;exact gen _ (hdx h) hr
 |fn f l=>simp only [srcOf] at h;exact gen _ (hdx h) hr
 |fb f l=>simp only [srcOf] at h;exact gen _ (hdx h) hr
 |xq n f=>simp only [srcOf] at h;exact gen _ (hdx h) hr
 |xl e l=>simp only [srcOf] at h;exact gen _ (hdx h) hr
 |op k es i j=>simp only [srcOf] at h;exact gen _ (hdx h) hr
 |om k=>simp only [srcOf] at h;exact gen _ (hdx h) hr
 |mp kd ks vs=>simp only [srcOf] at h;exact gen _ (hdx h) hr
 |oc k es off n c=>simp only [srcOf] at h;exact gen _ (hdx h) hr
 |yld k=>simp only [srcOf] at h;exact gen _ (hdx h) hr
 |junk=>simp only [srcOf] at h;exact gen _ (hdx h) hr
def elemT_some {t e:aS}{ty:Ty}{m by_:aC}(h:elemT P t=ah (e,ty,m,by_)):P.underlying t=ah (.slice e)/\ty.n=m/\∃i,P.info? e=ah i/\i.size=m/\i.bytes=by_:=by
 unfold elemT at h;split at h
 ·rename_i e' hu
  split at h
  ·rename_i ty' m' b' h1 h2 h3
   split at h
   ·rename_i hm
    simp only [Ac,Ai] at h;obtain ⟨rfl,rfl,rfl,rfl⟩:=h;refine ⟨hu,hm.1,?_⟩;unfold sizeT at h2;unfold bytesT at h3;cases hi:P.info? e' with
    |none=>simp [hi] at h2
    |some i=>simp [hi] at h2 h3;exact ⟨i,rfl,h2,h3⟩
   ·cases h
  ·cases h
 ·cases h
def srcOf_Src {e:Ty}{x:LV}{q:List e.D}{y:aV}{tx e':aS}(hk:P.underlying tx=ah (.slice e')) (hW:RW G w0 Z0 Z β H w) (h:(srcOf H e x).all λz=>z=q) (hr:R β Z w x y):
  ∃news:aT,Src P e.n tx y (M q) news w/\∀(Z':aC->Prop) (w':aO) (b' o':aC),(∀b,Z b->Z' b)->(∀b,Z b->w'.heap[b]? =w.heap[b]?)->(∀j,j<M news->w'.cell? ⟨b',o'+j,aj⟩=news[j]?)->∀(i:aC) (d:e.D),q[i]? =ah d->RD Z' w' e d b' (o'+i*e.n):=by
 obtain ⟨a,c,h1,h2⟩:=srcOf_R hW h hr
 by_cases hn:0<M q
 ·obtain ⟨b,o,h3,h4⟩:=h2 hn
  obtain ⟨vs,v1,v2,v3⟩:=row_cells h4;refine ⟨vs,?_,λZ' w' b' o' hZ hw hc=>row_back hZ hw h4 v2 λj hj=>hc j A0⟩
  rw [h1,h3]
  exact Src.ofSlice w hk ⟨b,o,aj⟩ _ c vs v1 (λj u hu=>by
   have hj:j<M q*e.n:=A8
   rw [addr_add,v2 j hj,hu]) λu hu=>oneB_one<|v3 u hu
 ·have hq:q=[]:=K4.1 A0
  subst hq;refine ⟨[],?_,λZ' w' b' o' hZ hw hc i d hd=>A8⟩
  rw [h1];cases a with
  |none=>exact Src.ofNil w hk c
  |some a=>exact Src.ofSlice w hk a 0 c [] AH (λj u hu=>A8) λu hu=>by cases hu
def decL_zero {ty:Ty}{z:aV}{d:ty.D}(hd:decL ty (z.cells.toList.map .v)=ah d) {w':aO}{b o:aC}(hc:∀(j:aC) v,z.cells.toList[j]? =ah v->w'.cell? ⟨b,o+j,aj⟩=ah v):RD Z w' ty d b o:=
 decL_R (Z:=Z) (w:=w') (β:=λ_=>default) (λ_ h=>h) (λ_ _=>rfl) ty _ d _ hd (RL_v _) b o hc
def makeL_sound {t:aS} {n c lv:LV} {vn vc:aV} {H':aE} (hW:RW G w0 Z0 Z β H w) (h:(makeL P H t n c).all λq=>q=(lv,H')) (hn:R β Z w n vn) (hc:R β Z w c vc):
  ∃w' v,(Instr.makeSlice t vn vc).run P w=.ok v w'/\Below w.heap.size w w'/\∃β',(∀k,k<M H->β' k=β k)/\RW G w0 Z0 Z β' H' w'/\R β' Z w' lv v/\okV (M H') lv/\M H'=M H+1/\(β'<|M H).b=w.heap.size:=by
 unfold makeL at h;split at h
 ·rename_i e ty m by_ n' c' he hn' hc'
  obtain ⟨hu,htn,i,hi,him,hib⟩:=elemT_some he;split at h
  ·rename_i z hz
   split at h
   ·rename_i d hd
    split at h
    ·rename_i hzs
     simp only [T.all] at h;obtain ⟨⟨h0,h1,h2,h3⟩,h4⟩:=h;obtain ⟨rfl,rfl⟩:=h4
     have hzi:i.zero=ah z:=aK1
     have hrun:=run_make (P:=P) w t e i z hu hi hzi J J n' c' h0 h1 (by rw [hib];simpa using h2) A0
     rw [pl_R hn' hn,pl_R hc' hc]
     have hbw:Below w.heap.size w (w.alloc<|.cells (madeCells z.cells<|c'.toNat*i.size) e):=(Below.refl _ _).alloc (Ar _) _
     have hblk:(w.alloc<|.cells (madeCells z.cells<|c'.toNat*i.size) e).heap[w.heap.size]? =ah (.cells (madeCells z.cells<|c'.toNat*i.size) e (0,0)):=by
      exact Vj
     obtain ⟨β',b1,b2,b3⟩:=(hW.same hbw).adopt (ℓ:=⟨w.heap.size,0,ah c'.toNat⟩) (nb:=⟨[],e,.vec ty<|aq n'.toNat d,X⟩) rfl ⟨ak,ak⟩
      (λ_=>⟨λhz=>Vn,hW.below.size,λj bj hj lj e=>OQ⟩) (λβ' g1 g2=>by
       simp only [BlkR,g2];refine ⟨_,hblk,by simp [madeCells,htn,him],CN,λj d' hd'=>?_⟩
       have hj:j<n'.toNat:=A8
       have hdd:d'=d:=A8
       subst hdd;refine decL_zero hd λp v hv=>?_
       have hp:p<m:=A8
       rw [cell_of_block hblk]
       have hlt:0+j*ty.n+p<c'.toNat*i.size:=by
        have:=K5 m (show j+1<=c'.toNat by omega)
        rw [E6,OE] at this;rw [htn,him];omega
       rw [madeCells]
       have hv':z.cells[p]? =ah v:=by simpa using hv
       rw [htn,Ck] at hlt|-;simp only [Array.getElem?_map,Array.getElem?_range];rw [AD hlt];simp only [Gx,hzs,Nat.mul_comm j m,Nat.mul_add_mod,Nat.mod_eq_of_lt hp];rw [getElem!_def,hv'])
     exact ⟨_,_,hrun,hbw,β',b1,b3,by simp only [R,b2];exact ⟨CN,⟨w.heap.size,0,aj⟩,AH,λ_=>AH⟩,IU,AH,Qp⟩
    ·cases h
   ·cases h
  ·cases h
 ·cases h
def emptyL_sound {t:aS}{lv:LV}{H':aE}(hW:RW G w0 Z0 Z β H w) (h:(emptyL P H t).all λq=>q=(lv,H')):
  ∃w' v,(Instr.buildSlice t 0 #[]).run P w=.ok v w'/\Below w.heap.size w w'/\∃β',(∀k,k<M H->β' k=β k)/\RW G w0 Z0 Z β' H' w'/\R β' Z w' lv v/\okV (M H') lv/\M H'=M H+1/\(β'<|M H).b=w.heap.size:=by
 unfold emptyL at h;split at h
 ·rename_i e ty m by_ he
  obtain ⟨hu,htn,i,hi,him,hib⟩:=elemT_some he;obtain ⟨rfl,rfl⟩:=h
  have hbw:Below w.heap.size w (w.alloc<|.cells #[] e):=(Below.refl _ _).alloc (Ar _) _
  have hblk:(w.alloc<|.cells #[] e).heap[w.heap.size]? =ah (.cells #[] e (0,0)):=by
   exact Vj
  obtain ⟨β',b1,b2,b3⟩:=(hW.same hbw).adopt (ℓ:=⟨w.heap.size,0,ah 0⟩) (nb:=⟨[],e,.vec ty [],X⟩) rfl ⟨ak,ak⟩
   (λ_=>⟨λhz=>Vn,hW.below.size,λj bj hj lj e=>OQ⟩) (λβ' g1 g2=>by
    simp only [BlkR,g2];exact ⟨_,hblk,AH,AH,λj d hd=>A8⟩)
  have hsz:sizeT P e=ah m:=by unfold sizeT;simp [hi,him]
  refine ⟨_,.slice (ah ⟨w.heap.size,0,aj⟩) 0 0,?_,hbw,β',b1,b3,by simp only [R,b2];exact ⟨AH,⟨w.heap.size,0,aj⟩,rfl,λh=>A8⟩,IU,AH,Qp⟩
  have e1:=λw=>run_sizeOf hsz w
  have n1:¬(0>2^24):=AT
  have ha:∀f:aC->aV,(Array.range 0).map f=#[]:=λf=>AH
  simp only [Instr.buildSlice,cH,Bw hu,cR,e1,cr,qC,newRow,AE n1,BP,ha];rfl
 ·cases h
def RW.kill (hW:RW G w0 Z0 Z β H w) (k:aC) (e:aS):RW G w0 Z0 Z β (H.set k ⟨[],e,.dead,X⟩) w:=by
 have old:∀i bi,(H.set k ⟨[],e,.dead,X⟩)[i]? =ah bi->(¬live β i bi/\BlkR β Z w i bi/\okB (M H) bi)\/H[i]? =ah bi:=λi bi h=>by
  rw [Fm] at h;split at h
  ·rename_i e'
   split at h
   ·simp only [Ac] at h;subst h;exact .inl ⟨λh=>h,ak,ak,ak⟩
   ·cases h
  ·exact .inr h
 refine ⟨hW.below,hW.zlt,hW.znew,λi bi hi li pi=>?_,λi bi hi li pi=>?_,λi bi hi li=>?_,λi j bi bj hi hj li lj pi e=>?_,λi bi hi=>?_,hW.glob,λp hp=>⟨(hW.gh p hp).1,aKY⟩,hW.mks⟩
 ·rcases old i bi hi with h|h
  ·grind
  ·exact hW.zown i bi h li pi
 ·rcases old i bi hi with h|h
  ·grind
  ·exact hW.zpub i bi h li pi
 ·rcases old i bi hi with h|h
  ·grind
  ·exact hW.low i bi h li
 ·rcases old i bi hi with h|h
  ·grind
  ·rcases old j bj hj with h'|h'
   ·grind
   ·exact hW.inj i j bi bj h h' li lj pi e
 ·rw [BR]
  rcases old i bi hi with h|h
  ·grind
  ·exact hW.blk i bi h
def RW.loose {w':aO}{B:aC}(hW:RW G w0 Z0 Z β H w) (hB:w0.heap.size<=B) (hBZ:¬Z B) (hBo:∀j bj,H[j]? =ah bj->live β j bj->(β j).b≠B)
  (hsz:w'.heap.size=w.heap.size) (hos:w'.os=w.os/\w'.tape=w.tape/\w'.output=w.output) (hne:∀j,j≠B->w'.heap[j]? =w.heap[j]?):RW G w0 Z0 Z β H w':=by
 have hw:∀b',Z b'->w'.heap[b']? =w.heap[b']? :=λb' hz=>hne b' λe=>hBZ<|e▸hz
 refine ⟨?_,λb' hz=>aKS,hW.znew,hW.zown,hW.zpub,hW.low,hW.inj,λi bi hi=>?_,hW.glob.mono (λ_ h=>h) hw,λp hp=>⟨R.mono (n:=M H) (λ_ _=>rfl) (λ_ h=>h) hw _ _ (hW.gh p hp).2 (hW.gh p hp).1,(hW.gh p hp).2⟩,λD hD=>⟨(hW.mks D hD).1,Vu⟩⟩
 ·exact hW.below.trans ⟨hos.1,hos.2.1,hos.2.2,cq hsz.symm,λi hi=>hne i A0⟩
 ·obtain ⟨g1,g2⟩:=hW.blk i bi hi
  exact ⟨g1.keep (λ_ _=>rfl) (λ_ h=>h) hw rfl (λli=>hne _<|hBo i bi hi li) g2,g2⟩
def zeroCells_size (z:aW) (n:aC):(Builtin.zeroCells z n).size=n*z.size:=by simp [Builtin.zeroCells]
def Back (Z:aC->Prop) (w:aO) (e:Ty) (l:List e.D) (vs:aT):Prop:=
 ∀(Z':aC->Prop) (w':aO) (b' o':aC),(∀b,Z b->Z' b)->(∀b,Z b->w'.heap[b]? =w.heap[b]?)->(∀j,j<M vs->w'.cell? ⟨b',o'+j,aj⟩=vs[j]?)->∀(i:aC) (d:e.D),l[i]? =ah d->RD Z' w' e d b' (o'+i*e.n)
def grow_sound (hW:RW G w0 Z0 Z β H w) {t tx ty' e:aS}{i:TypeInfo}{z:aV}(hu:P.underlying t=ah (.slice e)) (hi:P.info? e=ah i) (hz:i.zero=ah z) {ty:Ty}(hts:i.size=ty.n) (hzs:z.cells.size=ty.n)
  {base:Option Addr} {sCap:aC} {olds:aT} {lo q:List ty.D} (hold:(Builtin.firstCells i.size (M lo)<|.slice base (M lo) sCap).run P w.drew=.ok olds.toArray w.drew) (hol:M olds=M lo*ty.n)
  (ob:Back Z w ty lo olds) {y:aV} {news:aT} (hs:Src P ty.n tx y (M q) news w) (nb:Back Z w ty q news) (hg:sCap<M lo+M q)
  (h63:((M lo+M q:aC):Y)<2^62) (hby:((M lo+M q:aC):Y)*i.bytes<=2^47):
  ∃w' v,(Builtin.append_ #[t,tx] ty' #[.slice base (M lo) sCap,y]).run P w=.ok v w'/\Below w.heap.size w w'/\∃β',(∀k,k<M H->β' k=β k)/\RW G w0 Z0 Z β' (H++[⟨[],e,.vec ty<|lo++q,X⟩]) w'/\
   R β' Z w' (.os (M H) ty.n 0<|M lo+M q) v/\(β'<|M H).b=w.heap.size:=by
 have hnl:=hs.newsLen
 have hrun:=run_append_grow_src (P:=P) w t tx ty' e i z hu hi hz base (M lo) sCap olds hold y (M q) news (by rw [hts];exact hs) hg A0<|growslice_fits hg (by
  omega)
 have hcap:=grownCap_ge w (M lo+M q) sCap e
 generalize grownCap w (M lo+M q) sCap e=cap at hrun hcap;generalize hcs:((olds++news).toArray++Builtin.zeroCells z.cells (cap-(M lo+M q)))=cs at hrun
 have hbw:Below w.heap.size w (w.drew.alloc<|.cells cs e):=⟨rfl,rfl,rfl,by simp [World.alloc],λk hk=>heap_alloc_old w.drew _ hk⟩
 have hblk:(w.drew.alloc<|.cells cs e).heap[w.heap.size]? =ah (.cells cs e (0,0)):=heap_alloc_new w.drew _
 have hw:∀b,Z b->(w.drew.alloc<|.cells cs e).heap[b]? =w.heap[b]? :=λb hz=>below_block hbw<|hW.zlt b hz
 have hc1:∀j,j<M olds->cs[j]? =olds[j]? :=λj hj=>by
  rw [<-hcs,qK CN];simp only [VK]
  grind
 have hc2:∀j,j<M news->cs[M olds+j]? =news[j]? :=λj hj=>by
  rw [<-hcs,qK CN];simp only [VK];rw [EK A0]
  congr 1
  omega
 obtain ⟨β',b1,b2,b3⟩:=(hW.same hbw).adopt (ℓ:=⟨w.heap.size,0,ah cap⟩) (nb:=⟨[],e,.vec ty<|lo++q,X⟩) rfl ⟨ak,ak⟩
  (λ_=>⟨λhz=>A8,hW.below.size,λj bj hj lj e=>OQ⟩) (λβ' g1 g2=>by
   simp only [BlkR,g2];refine ⟨cs,hblk,?_,by rw [Av];omega,λj d hd=>?_⟩
   ·rw [<-hcs]
    have h1:cap*ty.n=(M lo+M q)*ty.n+(cap-(M lo+M q))*ty.n:=by
     rw [<-E6];congr 1;omega
    simp only [Array.size_append,zeroCells_size,hzs,List.size_toArray,Av,hol,hnl];rw [h1,E6];omega
   ·by_cases hj:j<M lo
    ·rw [FI hj] at hd
     exact ob Z _ w.heap.size 0 (λ_ h=>h) hw (λp hp=>by rw [cell_of_block hblk,Ck,hc1 p hp]) j d hd
    ·rw [EK A0] at hd
     have:=nb Z _ w.heap.size (0+M olds) (λ_ h=>h) hw (λp hp=>by rw [cell_of_block hblk,Ck,hc2 p hp]) _ d hd
     rw [hol,Ck,<-E6] at this;rw [show M lo+(j-M lo)=j by omega] at this
     rw [Ck];exact this)
 exact ⟨_,_,hrun,hbw,β',b1,b3,aJj,Qp⟩
def size_setCells (b:aC):∀(vs:aT) (o:aC) (w:aO),(w.setCells b o vs).heap.size=w.heap.size
 | [],_,_=>rfl
 |v::r,o,w=>by rw [World.setCells,size_setCells b r];simp
def tape_setCells (b:aC):∀(vs:aT) (o:aC) (w:aO),(w.setCells b o vs).tape=w.tape
 | [],_,_=>rfl
 |v::r,o,w=>by rw [World.setCells,tape_setCells b r];rfl
def other_setCells (w:aO) (g o:aC) (vs:aT) {i:aC}(hne:i≠g):(w.setCells g o vs).heap[i]? =w.heap[i]? :=by
 by_cases hi:i<w.heap.size
 ·exact World.heap_setCells_other w g o vs hi hne
 ·rw [Array.getElem?_eq_none (by rw [size_setCells];omega),Array.getElem?_eq_none A0]
def block_setCells (b:aC) (t:aS):∀(vs:aT) (o:aC) (w:aO) (cs:aW),w.heap[b]? =ah (.cells cs t (0,0))->∃cs',(w.setCells b o vs).heap[b]? =ah (.cells cs' t (0,0))/\cs'.size=cs.size
 | [],_,w,cs,h=>⟨cs,h,rfl⟩
 | v::r,o,w,cs,h=>by
  have h1:(w.setCell ⟨b,o,aj⟩ v).heap[b]? =ah (.cells (cs.setIfInBounds o v) t (0,0)):=by
   simp [World.setCell,Array.getElem?_modify,h]
  obtain ⟨cs',h2,h3⟩:=block_setCells b t r (o+1) _ _ h1;exact ⟨cs',h2,A8⟩
def room_sound (hW:RW G w0 Z0 Z β H w) {t tx ty' e:aS}{i:TypeInfo}(hu:P.underlying t=ah (.slice e)) (hkx:∃e',P.underlying tx=ah (.slice e')) (hi:P.info? e=ah i) {ty:Ty}(him:i.size=ty.n)
  {B O c:aC} {ad:Addr} {lo q:List ty.D} {cs:aW} (g1:w.heap[B]? =ah (.cells cs e (0,0))) (g2:O+c*ty.n<=cs.size) (had:0<c->ad=⟨B,O,aj⟩)
  (hB0:w0.heap.size<=B) (hBZ:¬Z B) (hBo:∀j bj,H[j]? =ah bj->live β j bj->(β j).b≠B)
  (olde:∀(j:aC) (d:ty.D),lo[j]? =ah d->RD Z w ty d B (O+j*ty.n)) {y:aV} {news:aT} (hs:Src P ty.n tx y (M q) news w) (nb:Back Z w ty q news) (hroom:M lo+M q<=c):
  ∃w' v,(Builtin.append_ #[t,tx] ty' #[.slice (ah ad) (M lo) c,y]).run P w=.ok v w'/\(w'.os=w.os/\w'.tape=w.tape/\w'.output=w.output/\w'.heap.size=w.heap.size)/\(∀j,j≠B->w'.heap[j]? =w.heap[j]?)/\
   ∃β',(∀k,k<M H->β' k=β k)/\RW G w0 Z0 Z β' (H++[⟨[],e,.vec ty<|lo++q,X⟩]) w'/\R β' Z w' (.os (M H) ty.n 0<|M lo+M q) v/\(β'<|M H).b=B:=by
 have hnl:=hs.newsLen
 have hmr:M lo*ty.n+M q*ty.n<=c*ty.n:=by rw [<-E6];exact K5 _ hroom
 have hrun:(Builtin.append_ #[t,tx] ty' #[.slice (ah ad) (M lo) c,y]).run P w=.ok (.slice (ah ad) (M lo+M q) c) (w.setCells B (O+M lo*ty.n) news):=by
  by_cases hc0:0<c
  ·rw [had hc0]
   have:=run_append_room_src (P:=P) w t tx ty' e i hu hi B O (M lo) c y (M q) news (by rw [him];exact hs) hroom (λj hj=>by
    rw [cell_of_block g1,him]
    have:O+M lo*ty.n+j<cs.size:=A0
    simp [this]) λj hj=>frozen_of_block g1 _
   rw [him] at this;exact this
  ·have hn0:M lo=0:=A0
   have hq0:M q=0:=A0
   have hnn:news=[]:=K4.1 (by rw [hnl,hq0];simp)
   have hl:=hs.len
   have hc:=hs.cells
   rw [hq0] at hl hc;subst hnn;rw [hq0,hn0];obtain ⟨e',hk⟩:=hkx
   simp [Builtin.append_,Bw hu,Bw hk,sizeOf,typeInfo,hi,hl,him,hc,World.setCells,storeCells]
 have hne:∀j,j≠B->(w.setCells B (O+M lo*ty.n) news).heap[j]? =w.heap[j]? :=λj hj=>other_setCells w _ _ _ hj
 have hZw:∀b',Z b'->(w.setCells B (O+M lo*ty.n) news).heap[b']? =w.heap[b']? :=λb' hz=>hne b' λe=>hBZ<|e▸hz
 have hin:=World.cell?_setCells_in B news (O+M lo*ty.n) w (λj hj=>by
  rw [cell_of_block g1]
  have:O+M lo*ty.n+j<cs.size:=A0
  simp [this])
 have hout:=λj (hj:j<O+M lo*ty.n)=>World.cell?_setCells_out B news (O+M lo*ty.n) w ⟨B,j,aj⟩ λ_ _=> .inl hj
 obtain ⟨cs',q1,q2⟩:=block_setCells B e news (O+M lo*ty.n) w cs g1
 have hos:=World.os_setCells w B (O+M lo*ty.n) news
 have hot:=World.output_setCells w B (O+M lo*ty.n) news
 have htp:=tape_setCells B news (O+M lo*ty.n) w
 have hsz:=size_setCells B news (O+M lo*ty.n) w
 generalize w.setCells B (O+M lo*ty.n) news=w' at hrun hne hZw hin hout q1 hos hot htp hsz
 have hW2:=hW.loose hB0 hBZ hBo hsz ⟨hos,htp,hot⟩ hne
 obtain ⟨β',b1,b2,b3⟩:=hW2.adopt (ℓ:=⟨B,O,ah c⟩) (nb:=⟨[],e,.vec ty<|lo++q,X⟩) rfl ⟨ak,ak⟩ (λ_=>⟨hBZ,hB0,hBo⟩) (λβ' f1 f2=>by
  simp only [BlkR,f2];refine ⟨cs',q1,A0,by rw [Av];exact hroom,λj d hd=>?_⟩
  by_cases hj:j<M lo
  ·rw [FI hj] at hd
   refine RD.move (λ_ h=>h) hZw ty d _ _ _ _ (λp hp=>?_)<|olde j d hd
   have:=K5 ty.n (show j+1<=M lo by omega)
   rw [E6,OE] at this;exact hout _ A0
  ·rw [EK A0] at hd
   have:=nb Z w' B (O+M lo*ty.n) (λ_ h=>h) hZw (λp hp=>by rw [hin p hp,Cs hp]) _ d hd
   rw [FM O,<-E6,show M lo+(j-M lo)=j by omega] at this
   exact this)
 refine ⟨w',_,hrun,⟨hos,htp,hot,hsz⟩,hne,β',b1,b3,?_,Qp⟩;simp only [R,b2]
 grind
def T.bind_all {α γ:Type}{t:T α}{k:α->T γ}{y:γ}(h:(t.bind k).all λz=>z=y):∃x,t.all (λz=>z=x)/\(k x).all (λz=>z=y):=by
 rw [T.all_bind] at h;obtain ⟨x,h1,h2⟩:=T.pick h
 grind
def appendL_sound {t tx ty':aS} {x y lv:LV} {vx vy:aV} {H':aE} (hW:RW G w0 Z0 Z β H w) (h:(appendL P H t tx x y).all λq=>q=(lv,H')) (hx:R β Z w x vx) (hy:R β Z w y vy):
  ∃w' v,(Builtin.append_ #[t,tx] ty' #[vx,vy]).run P w=.ok v w'/\Near (lvB β H<|owns x) w w'/\(∀b,Z b->w'.heap[b]? =w.heap[b]?)/\∃β',(∀k,k<M H->β' k=β k)/\RW G w0 Z0 Z β' H' w'/\R β' Z w' lv v/\okV (M H') lv/\
   (M H')=M H+1/\(w.heap.size<=(β'<|M H).b\/(β'<|M H).b∈lvB β H (owns x)):=by
 unfold appendL at h;split at h
 ·rename_i e ty m by_ he
  obtain ⟨hu,htn,i,hi,him,hib⟩:=elemT_some he;split at h
  ·rename_i e2 z hkx hz
   have hzi:i.zero=ah z:=aK1
   split at h
   ·rename_i hzs
    obtain ⟨q,hq,hnew⟩:=T.bind_all h
    clear h
    have h:=hnew
    clear hnew
    ·obtain ⟨news,hs,nb⟩:=srcOf_Src hkx hW hq hy
     have hnl:=hs.newsLen
     subst htn
     have nil:∀(H1:aE),RW G w0 Z0 Z β H1 w->(M q:Y)*by_<=2^47->(M q:Y)<2^62->
       ∃w' v,(Builtin.append_ #[t,tx] ty' #[.slice aj 0 0,vy]).run P w=.ok v w'/\Below w.heap.size w w'/\∃β',(∀k,k<M H1->β' k=β k)/\RW G w0 Z0 Z β' (H1++[⟨[],e,.vec ty q,X⟩]) w'/\R β' Z w' (.os (M H1) ty.n 0<|M q) v/\(β'<|M H1).b=w.heap.size:=λH1 hW1 hby h62=>by
      by_cases hq0:0<M q
      ·have:=grow_sound (P:=P) (ty':=ty') hW1 hu hi hzi him hzs (base:=aj) (sCap:=0) (olds:=[]) (lo:=[]) (q:=q) (by simpa using run_firstCells_none (P:=P) w.drew i.size 0 0 0) AH (λ_ _ _ _ _ _ _ i d hd=>by simp at hd) hs nb (by simpa using hq0) (by simpa using h62) (by rw [hib];simpa using hby)
       exact Mv
      ·have hqn:q=[]:=K4.1 A0
       subst hqn
       have hn0:news=[]:=K4.1<|by simpa using hnl
       subst hn0;obtain ⟨β',b1,b2,b3⟩:=hW1.adopt (ℓ:=⟨w.heap.size,0,aj⟩) (nb:=⟨[],e,.vec ty [],X⟩) rfl ⟨ak,ak⟩ (λhl=>absurd rfl hl) λβ' g1 g2=>dU
       refine ⟨w,.slice aj 0 0,?_,Below.refl _ _,β',b1,b3,by simp [R,b2],Qp⟩
       have hl:=hs.len
       have hc:=hs.cells
       simp only [BG] at hl hc
       simp [Builtin.append_,Bw hu,Bw hkx,sizeOf,typeInfo,hi,hl,him,hc]
     split at h
     ·simp only [T.all] at h
      obtain ⟨⟨h1,h2⟩,h3⟩:=h;simp only [Ai] at h3;obtain ⟨rfl,rfl⟩:=h3;simp only [R] at hx;subst hx;obtain ⟨w',v,r1,r2,β',r3,r4,r5,r6⟩:=nil H hW h1 h2;exact ⟨w',v,r1,⟨r2.os,r2.tape,r2.output,r2.size,λk hk _=>r2.block k hk⟩,λb hz=>below_block r2<|hW.zlt b hz,β',r3,r4,r5,IU,AH,.inl A0⟩
     ·rename_i k es off n
      split at h
      ·rename_i c0 bt e' l hb
       split at h
       ·rename_i hee _
        have hee':=hee.symm
        subst hee';split at h
        ·rename_i hes
         obtain ⟨rfl,rfl⟩:=hes;simp only [T.all] at h;obtain ⟨⟨hlen,hby,h62⟩,h3⟩:=h;simp only [Ai,castL] at h3;obtain ⟨rfl,rfl⟩:=h3
         have hkl:k<M H:=(Ce.1 hb).1
         have hW1:=hW.kill k bt
         have hblk:=(hW.blk k _ hb).1
         simp only [R] at hx;split at hx
         ·rename_i hcap
          obtain ⟨rfl,rfl,rfl⟩:=hx;simp only [BlkR,hcap] at hblk;subst hblk;obtain ⟨w',v,r1,r2,β',r3,r4,r5,r6⟩:=nil _ hW1 (by simpa using hby)<|by simpa using h62
          simp only [BR] at r3 r5 r6;exact ⟨w',v,r1,⟨r2.os,r2.tape,r2.output,r2.size,λk hk _=>r2.block k hk⟩,λb hz=>below_block r2<|hW.zlt b hz,β',r3,by simpa using r4,by simpa using r5,IU,AH,.inl A0⟩
         ·rename_i c hcap
          obtain ⟨hoc,ad,hvx,had⟩:=hx;subst hvx;simp only [BlkR,hcap] at hblk;obtain ⟨cs,g1,g2,g3,g4⟩:=hblk
          have hlive:live β k ⟨c0,bt,.vec ty l,X⟩:=by simp [live,hcap]
          have hB0:=hW.low k _ hb hlive
          have hBZ:=hW.zown k _ hb hlive rfl
          have hBo:∀j bj,(H.set k ⟨[],bt,.dead,X⟩)[j]? =ah bj->live β j bj->(β j).b≠(β k).b:=λj bj hj lj e=>by
           rw [Fm] at hj;split at hj
           ·first
            | (split at hj
               ·simp only [Ac] at hj;subst hj;exact lj
               ·cases hj)
            |(simp only [Ac] at hj;subst hj;exact lj)
           ·rename_i hne
            exact hne<|hW.inj k j _ bj hb hj hlive lj rfl e.symm
          have olde:∀(j:aC) (d:ty.D),(l.drop off)[j]? =ah d->RD Z w ty d (β k).b ((β k).o+off*ty.n+j*ty.n):=λj d hd=>by
           rw [DX] at hd
           have:=g4 (off+j) d hd
           rwa [E6,<-FM] at this
          have hln:M (l.drop off)=n:=CN
          have hmul:off*ty.n+(c-off)*ty.n=c*ty.n:=by rw [<-E6];congr 1;omega
          by_cases hroom:n+M q<=c-off
          ·--in place
           have hr:=room_sound (P:=P) (ty':=ty') hW1 hu ⟨_,hkx⟩ hi him (B:=(β k).b) (O:=(β k).o+off*ty.n) (c:=c-off) (ad:=ad) (lo:=l.drop off) (q:=q) g1 A0 had hB0 hBZ hBo olde hs nb (by rw [hln];exact hroom)
           rw [hln] at hr;obtain ⟨w',v,r1,⟨r2,r3,r4,r5⟩,r6,β',r7,r8,r9,r10⟩:=hr;simp only [BR] at r7 r9 r10;exact ⟨w',v,r1,⟨r2,r3,r4,A0,λj _ hj=>r6 j λe=>hj<|e▸lvB_one hb hlive rfl⟩,λb' hz=>r6 b' λe=>hBZ<|e▸hz,β',r7,r8,r9,IU,AH,.inr (by rw [r10];exact lvB_one hb hlive rfl)⟩
          ·--a new row
           obtain ⟨olds,o1,o2,o3⟩:=row_cells olde
           have hold:(Builtin.firstCells i.size n<|.slice (ah ad) n<|c-off).run P w.drew=.ok olds.toArray w.drew:=by
            by_cases hc0:0<c-off
            ·rw [had hc0,him]
             refine run_firstCells_some (P:=P) w.drew ty.n n _ n (c-off) olds (by rw [o1,hln]) λj v hv=>?_
             have hj:j<M (l.drop off)*ty.n:=by have:=(Ce.1 hv).1;omega
             rw [addr_add]
             have:=o2 j hj
             rw [hv] at this;exact this
            ·have hn0:n=0:=A0
             have:olds=[]:=K4.1 (by rw [o1,hln,hn0];simp)
             rw [this,hn0]
             simp [Builtin.firstCells,loadCells,loadCellsFrom]
           have hgr:=grow_sound (P:=P) (ty':=ty') hW1 hu hi hzi him hzs (base:=ah ad) (sCap:=c-off) (olds:=olds) (lo:=l.drop off) (q:=q) (by rw [hln];exact hold) o1 (λZ' w' b' o' hZ hw hc=>row_back hZ hw olde o2 λj hj=>hc j A0) hs nb (by rw [hln];omega) (by rw [hln];exact h62) (by rw [hln,hib];exact hby)
           rw [hln] at hgr;obtain ⟨w',v,r1,r2,β',r3,r4,r5,r6⟩:=hgr;simp only [BR] at r3 r5 r6;exact ⟨w',v,r1,⟨r2.os,r2.tape,r2.output,r2.size,λk hk _=>r2.block k hk⟩,λb hz=>below_block r2<|hW.zlt b hz,β',r3,r4,r5,IU,AH,.inl A0⟩
        ·cases h
       ·cases h
      ·cases h
     ·cases h
   ·cases h
  ·cases h
 ·cases h
def copyL_sound {t tx ty':aS} {x y lv:LV} {vx vy:aV} {H':aE} (hW:RW G w0 Z0 Z β H w) (h:(copyL P H t tx x y).all λq=>q=(lv,H')) (hx:R β Z w x vx) (hy:R β Z w y vy):
  ∃w' v,(Builtin.copy_ #[t,tx] ty' #[vx,vy]).run P w=.ok v w'/\RW G w0 Z0 Z β H' w'/\R β Z w' lv v/\okV (M H') lv/\M H'=M H/\(∀b,Z b->w'.heap[b]? =w.heap[b]?)/\Near (lvB β H<|owns x) w w':=by
 unfold copyL at h;split at h
 ·rename_i e ty m by_ e2 he hkx
  obtain ⟨hu,htn,i,hi,him,hib⟩:=elemT_some he;subst htn;split at h
  ·rename_i k es n
   split at h
   ·rename_i c0 bt e' l hb
    split at h
    ·rename_i hee _
     have hee':=hee.symm
     subst hee';split at h
     ·rename_i hes
      subst hes;obtain ⟨q,hq,h⟩:=T.bind_all h;obtain ⟨news,hs,nb⟩:=srcOf_Src hkx hW hq hy
      have hnl:=hs.newsLen
      simp only [T.all] at h;obtain ⟨⟨hn,hql⟩,h3⟩:=h;simp only [Ai,castL] at h3;obtain ⟨rfl,rfl⟩:=h3
      have hkl:k<M H:=(Ce.1 hb).1
      obtain ⟨hblk,hbo⟩:=hW.blk k _ hb
      have hcells:=hs.cells
      have hlen:=hs.len
      have same:M q=0->H.set k ⟨c0,bt,.vec ty<|cpy q l,X⟩=H:=λh0=>by
       have hq0:q=[]:=K4.1 h0
       subst hq0
       have e:H=H.set k ⟨c0,bt,.vec ty l,X⟩:=by
        apply List.ext_getElem? λj=>?_
        rw [Fm];split
        ·rename_i hj;subst hj;exact hb
        ·rfl
       simp only [cpy,FK,BG,Bq];exact e.symm
      have nothing:∀(a:Option Addr) (cc:aC),vx=.slice a n cc->M q=0->∃w' v,(Builtin.copy_ #[t,tx] ty' #[vx,vy]).run P w=.ok v w'/\RW G w0 Z0 Z β (H.set k ⟨c0,bt,.vec ty<|cpy q l,X⟩) w'/\R β Z w' (.v<|ag J (M q:Y)) v/\okV (M<|H.set k ⟨c0,bt,.vec ty<|cpy q l,X⟩) (.v<|ag J (M q:Y))/\M (H.set k ⟨c0,bt,.vec ty<|cpy q l,X⟩)=M H/\(∀b,Z b->w'.heap[b]? =w.heap[b]?)/\Near (lvB β H<|owns<|.os k ty.n 0 n) w w':=λa cc hv h0=>by
       have hnn:news=[]:=K4.1<|by rw [hnl,h0,cr]
       rw [same h0];subst hnn;rw [h0] at hcells hlen;refine ⟨w,ag J 0,?_,hW,by rw [h0];simp only [R];rfl,ak,rfl,λ_ _=>rfl,Near.refl _ _⟩
       rw [hv];cases a<;>simp [Builtin.copy_,Bw hu,hlen,sizeOf,typeInfo,hi,him,hcells,storeCells,goInt]
      simp only [R] at hx;split at hx
      ·rename_i hcap
       obtain ⟨hn0,_,hv⟩:=hx;exact nothing aj 0 (by rw [hv,hn0]) A0
      ·rename_i c hcap
       obtain ⟨hoc,ad,hvx,had⟩:=hx
       by_cases hq0:M q=0
       ·exact nothing _ _ hvx hq0
       ·have hlive:live β k ⟨c0,bt,.vec ty l,X⟩:=by unfold live;rw [hcap];simp
        simp only [BlkR,hcap] at hblk;obtain ⟨cur,g1,g2,g3,g4⟩:=hblk
        have hm:=K5 ty.n (show M q<=c by omega)
        have hst:=qV P (β k).b (β k).o bt news 0 cur w g1 (by rw [hnl];omega) hs.one
        simp only [VM] at hst;generalize hnew:(cur.toList.take (β k).o++news++cur.toList.drop ((β k).o+M news)).toArray=new at hst
        have hnget:∀p,new[p]? =if p<(β k).o then cur[p]? else if p<(β k).o+M news then news[p-(β k).o]? else cur[p]? :=λp=>by
         rw [<-hnew]
         have hsz':(β k).o<=cur.size:=A0
         by_cases q1:p<(β k).o
         ·exact aJK
         ·rw [AE q1]
          simp only [VK]
          by_cases q2:p<(β k).o+M news
          ·exact aIP
          ·rw [AE q2,EK CN,DX]
           have:(β k).o+M news+(p-M (cur.toList.take (β k).o++news))=p:=by
            simp
            omega
           rw [this]
           simp
        have hnsz:new.size=cur.size:=by
         rw [<-hnew]
         simp
         omega
        have hne:∀q,q≠(β k).b->(w.setRow (β k).b new).heap[q]? =w.heap[q]? :=λq hq=>setRow_block w _ _ _ hq
        have hZw:∀b',Z b'->(w.setRow (β k).b new).heap[b']? =w.heap[b']? :=λb' hz=>hne b' λe=>hW.zown k _ hb hlive rfl<|e▸hz
        have hb2:=setRow_heap w (β k).b cur new bt _ g1
        have had:=had A0
        rw [cr,VM] at had;refine ⟨w.setRow (β k).b new,ag J (M q:Y),?_,?_,H0,ak,AH,hZw,⟨rfl,rfl,rfl,Qd,λq _ hq=>hne q λe=>hq<|e▸lvB_one hb hlive rfl⟩⟩
        ·rw [hvx,had]
         simp [Builtin.copy_,Bw hu,hlen,sizeOf,typeInfo,hi,him,Nat.min_eq_left hql,hcells,hst,goInt]
        ·refine hW.set hb hlive rfl rfl ⟨hbo.1,ak⟩ Qd ⟨rfl,rfl,rfl⟩ hne ?_
         simp only [BlkR,hcap];refine ⟨new,hb2,A0,by simp only [cpy,Av,DV];omega,λi' d' hd'=>?_⟩
         unfold cpy at hd'
         by_cases hii:i'<M q
         ·rw [FI hii] at hd'
          refine nb Z (w.setRow (β k).b new) (β k).b (β k).o (λ_ h=>h) hZw (λp hp=>?_) i' d' hd'
          rw [cell_of_block hb2,hnget,AE A0,AD A0,Nat.add_sub_cancel_left]
         ·rw [EK A0,DX,Nat.add_sub_cancel' A0] at hd'
          refine RD.move (λ_ h=>h) hZw ty d' _ _ _ _ (λp hp=>?_)<|g4 i' d' hd'
          have:=K5 ty.n (show M q<=i' by omega)
          rw [cell_of_block hb2,cell_of_block g1,hnget,AE A0,AE A0]
     ·cases h
    ·cases h
   ·cases h
  ·cases h
 ·cases h
end Go.Sx
namespace Go.Sx
open Go.Proofs.YtjjcgjkagokchaaGreatDoor
open Go Go.RowKit
variable {P : Program} {G : Globs} {Γ : Specs} {β : Nat -> Loc} {Z : Nat -> Prop} {Z0 : Gz} {w w0 : World} {F : List LV} {H : List Blk} {a : Act}
def okL_map {n m:aC}{g:LV->LV}{l:aD}(h:okL n l) (hg:∀x,okV n x->okV m (g x)):okL m (l.map g):=by
 refine okL.of_get λi x hx=>?_
 cases hl:l[i]? with
 |none=>simp [hl] at hx
 |some q=>simp [hl] at hx;subst hx;exact hg q<|okL.get _ _ h hl
def ownsL_mem {k:aC}{x:LV}:∀ {l:aD}{i:aC},l[i]? =ah x->k∈owns x->k∈ownsL l
 | [],i,h,_=>A8
 |y::ys,0,h,hk=>by simp at h;subst h;simp only [ownsL,BN];exact .inl hk
 |y::ys,i+1,h,hk=>by simp at h;simp only [ownsL,BN];exact .inr<|ownsL_mem (l:=ys) h hk
def RL_map {S:aC->Prop}{Z':aC->Prop}{g:LV->LV}{n:aC}{l:aD}{ys:aT}(h:RL β Z w l ys) (hk:okL n l) (hS:∀k,k∈ownsL l->S k) (hg:∀x y,x∈l->(∀k,k∈owns x->S k)->okV n x->R β Z w x y->R β Z' w (g x) y):RL β Z' w (l.map g) ys:=by
 refine RL.of_get (by simp [RL.length h]) λi x hx=>?_
 cases hl:l[i]? with
 |none=>simp [hl] at hx
 |some q=>
  simp [hl] at hx;subst hx
  obtain ⟨y,h1,h2⟩:=RL.get _ _ h hl;exact ⟨y,h1,hg q y (Mj hl) (λk hkk=>hS k<|ownsL_mem hl hkk) (okL.get _ _ hk hl) h2⟩
def GX (H:aE) (d:aC) (x:LV):Prop:=(guardX H d x).all λ_=>True
def gseq_all {α:Type}{g:α->T Unit}:∀ {l:List α},(gseq g l).all (λ_=>True)->∀x,x∈l->(g x).all (λ_=>True)
 | [],_,x,hx=>by cases hx
 | y::ys,h,x,hx=>by
  simp only [gseq] at h;rw [T.all_bind] at h;rcases Ak.1 hx with rfl|hx
  ·exact T.all_mono (λ_ _=>trivial) h
  ·obtain ⟨_,h1,_⟩:=T.pick h
   exact gseq_all h1 x hx
def encL_ok0 (e:Ty) (d:e.D) (j:aC):okV 0 ((encL e d).getD j .junk):=getD_ok (encL_ok 0 e d) j
def toX_ok (H:aE) (hH:∀(k:aC) (b:bx),H[k]? =ah b->okB (M H) b):∀(d:aC) (x:LV),okV (M H) x->okV 0 (toX H d x)
 |0,x,_=>by cases x<;>trivial
 | d+1,.own k off,_=>by
  simp only [toX];split
  ·rename_i b hb
   split
   ·simp only [okV]
    exact λj=>toX_ok H hH d _<|getD_ok (hH k b hb).1 _
   ·trivial
  ·trivial
 | d+1,.os k es off n,_=>by
  simp only [toX];split
  ·split
   ·trivial
   ·trivial
  ·trivial
 | d+1,.op k es i j,_=>by
  simp only [toX];split
  ·split
   ·simp only [okV];exact λq=>encL_ok0 _ _ _
   ·trivial
  ·trivial
 | d+1,.om k,_=>by
  simp only [toX];split
  ·rename_i hb
   exact okL_map (hH k _ hb).2 λx hx=>toX_ok H hH d x hx
  ·trivial
 |d+1,.v x,_=>trivial
 |d+1,.bl x,_=>trivial
 |d+1,.ki _ _,_=>trivial
 |d+1,.agg l,h=>Vt
 |d+1,.tup l,h=>Vt
 |d+1,.fn f l,h=>Vt
 |d+1,.fb f l,h=>Vt
 |d+1,.xq n f,h=>by simpa only [toX,okV] using h
 |d+1,.xl e l,h=>trivial
 |d+1,.mp kd ks vs,h=>Vt
 |d+1,.oc ..,_=>trivial
 |d+1,.yld k,_=>trivial
 |d+1,.junk,_=>trivial
def ZP (Z:aC->Prop) (β:aC->aL1) (H:aE) (S:aC->Prop):aC->Prop:=λb=>Z b\/∃k bk,S k/\H[k]? =ah bk/\live β k bk/\b=(β k).b
def blk_cl (hW:RW G w0 Z0 Z β H w) {k:aC}{b:bx}(hb:H[k]? =ah b) (hc:b.isCl=U):live β k b/\(∃cs,w.heap[(β k).b]? =ah (.cells cs b.t (0,0))/\RL β Z w b.c cs.toList)/\okL (M H) b.c:=by
 obtain ⟨h1,h2⟩:=hW.blk k b hb;unfold BlkR at h1;unfold Blk.isCl at hc;split at hc
 ·rename_i hk'
  simp only [hk'] at h1;exact ⟨by unfold live;rw [hk'];trivial,h1,h2.1⟩
 ·cases hc
def toX_R {S:aC->Prop}(hW:RW G w0 Z0 Z β H w) (clo:∀k b,S k->H[k]? =ah b->∀j,j∈b.owns->S j):∀(d:aC) (x:LV) (y:aV),GX H d x->(∀k,k∈owns x->S k)->okV (M H) x->R β Z w x y->R β (ZP Z β H S) w (toX H d x) y
 |0,x,_,_,_,_,_=>by cases x<;>simp only [toX,R]
 | d+1,.own k off,y,hG,hS,hk,h=>by
  simp only [toX];split
  ·rename_i b hb
   split
   ·rename_i hcl
    obtain ⟨hl,⟨cs,hc,hrl⟩,hok⟩:=blk_cl hW hb hcl
    have hSk:S k:=hS k GI
    simp only [R,okV] at*;refine ⟨(β k).b,off,h,.inr ⟨k,b,hSk,hb,hl,rfl⟩,λj hj=>?_⟩
    have hl':off+j<M b.c:=A0
    have hq:=getD_lt hl'
    obtain ⟨z,h1,h2⟩:=RL.get _ _ hrl hq;refine ⟨z,aK5,?_⟩
    have hG':(gseq (guardX H d) b.c).all (λ_=>True):=aJr
    exact toX_R hW clo d _ z (gseq_all hG' _<|Mj hq) (λj hj=>clo k b hSk hb j (by unfold Blk.owns;exact BN.2<|.inl<|ownsL_mem hq hj)) (getD_ok hok _) h2
   ·exact Cl
  ·exact Cl
 | d +1,.os k es off n,y,hG,hS,hk,h=>by
  simp only [toX];split
  ·rename_i c0 bt e l pp hb
   split
   ·rename_i hes
    have hle:off+n<=M l:=by
     exact aJS
    have hSk:S k:=hS k GI
    have hlen:M ((l.drop off).take n)=n:=CN
    simp only [R] at h|-;rw [hlen];split at h
    ·obtain ⟨rfl,_,hy⟩:=h
     exact ⟨aj,0,hy,A0,λh=>absurd h A0⟩
    ·rename_i c hc
     obtain ⟨h1,a,h2,h3⟩:=h;refine ⟨ah a,c-off,h2,A0,λhn=>?_⟩
     have h4:=(hW.blk k _ hb).1
     simp only [BlkR,hc] at h4;obtain ⟨cs,g1,g2,g3,g4⟩:=h4;refine ⟨_,_,by rw [h3 A0],.inr ⟨k,_,hSk,hb,by simp [live,hc],rfl⟩,λi d hd=>?_⟩
     rw [IP] at hd;split at hd
     ·rw [DX] at hd
      have:=g4 (off+i) d hd
      rw [<-hes];rw [E6,<-FM] at this;exact RD.keep (λ_ h=> .inl h) (λ_ _=>rfl) e d _ _ rfl this
     ·cases hd
   ·exact Cl
  ·exact Cl
 | d +1,.op k es i j,y,hG,hS,hk,h=>by
  simp only [toX];split
  ·rename_i c0 bt e l pp hb
   split
   ·rename_i hes
    have hle:i<M l:=by
     exact aJS
    have hSk:S k:=hS k GI
    simp only [R] at h|-;obtain ⟨hcap,hy⟩:=h
    have h4:=(hW.blk k _ hb).1
    simp only [BlkR] at h4;split at h4
    ·exact rM
    ·rename_i c hc
     obtain ⟨cs,g1,g2,g3,g4⟩:=h4;refine ⟨_,_,hy,.inr ⟨k,_,hSk,hb,by simp [live,hc],rfl⟩,λq hq=>?_⟩
     have hjq:j+q<M (encL e<|l.getD i e.dflt):=sH
     have hrd:=RD.keep (Z':=ZP Z β H S) (λ_ h=> .inl h) (λ_ _=>rfl) e _ _ _ rfl<|g4 i _<|getD_at hle
     obtain ⟨z,z1,z2⟩:=encL_R (β:=β) e _ _ _ hrd (j+q) _<|getD_lt hjq
     grind
   ·exact Cl
  ·exact Cl
 | d+1,.om k,y,hG,hS,hk,h=>by
  simp only [toX];split
  ·rename_i c0 bt kd ks vs pp hb
   have hSk:S k:=hS k GI
   obtain ⟨h4,h5⟩:=hW.blk k _ hb;simp only [BlkR] at h4;obtain ⟨es,clock,g1,g2,g3⟩:=h4;simp only [R] at h|-;refine ⟨_,es,clock,h,.inr ⟨k,_,hSk,hb,ak,rfl⟩,g1,g2,?_⟩
   have hG':(gseq (guardX H d) vs).all (λ_=>True):=aJr
   exact RL_map (S:=S) g3 h5.2 (λj hj=>clo k _ hSk hb j (by unfold Blk.owns;exact BN.2<|.inr hj)) λx y hm hx hk' hr=>toX_R hW clo d x y (gseq_all hG' _ hm) hx hk' hr
  ·exact Cl
 |d+1,.v x,_,_,_,_,h=>h
 |d+1,.bl x,_,_,_,_,h=>h
 |d+1,.ki _ _,_,_,_,_,h=>h
 |d+1,.agg l,y,hG,hS,hk,h=>by
  exact cY
 |d+1,.tup l,y,hG,hS,hk,h=>by
  exact cY
 |d+1,.fn f l,y,hG,hS,hk,h=>by
  exact cY
 |d+1,.fb f l,y,hG,hS,hk,h=>by
  exact cY
 |d+1,.mp kd ks vs,y,hG,hS,hk,h=>by
  have hG':(gseq (guardX H d) vs).all (λ_=>True):=aKp
  clear hG
  simp only [toX,R,okV,owns] at*;obtain ⟨r,es,clock,h1,h2,h3,h4,h5⟩:=h;exact ⟨r,es,clock,h1,.inl h2,h3,h4,RL_map h5 hk hS λx y hm hx hk' hr=>toX_R hW clo d x y (gseq_all hG' _ hm) hx hk' hr⟩
 |d+1,.xq n f,y,_,_,hk,h=>by
  exact aIU
 |d+1,.xl e l,y,_,_,hk,h=>by
  exact aIU
 |d+1,.oc ..,_,_,_,_,_=>sC
 |d+1,.yld k,_,_,_,_,_=>sC
 |d+1,.junk,_,_,_,_,_=>sC
def pubGo_get (ks:aH):∀(H:aE) (s k:aC),(pubGo ks s H)[k]? =(H[k]?).map λb=>if ks.contains (s+k) then ⟨b.c,b.t,b.k,U⟩ else b
 | [],_,_=>by simp [pubGo]
 |b::bs,s,0=>by simp [pubGo]
 |b::bs,s,k+1=>by
  simp only [pubGo,cS];rw [pubGo_get ks bs (s+1) k,show s+1+k=s+(k+1) by omega]
def pubGo_length (ks:aH):∀(H:aE) (s:aC),M (pubGo ks s H)=M H
 | [],_=>rfl
 |b::bs,s=>by simp [pubGo,pubGo_length ks bs]
def RW.pub (hW:RW G w0 Z0 Z β H w) (ks:aH):RW G w0 Z0 (ZP Z β H λk=>k∈ks) β (pubGo ks 0 H) w:=by
 have old:∀k b,(pubGo ks 0 H)[k]? =ah b->∃b0,H[k]? =ah b0/\live β k b=live β k b0/\b.k=b0.k/\b.t=b0.t/\b.c=b0.c/\((k∈ks/\b.p=U)\/(k∉ks/\b.p=b0.p)):=λk b h=>by
  rw [pubGo_get] at h;cases hb:H[k]? with
  |none=>simp [hb] at h
  | some b0=>
   simp only [hb,Gx,Ac,Ck] at h;refine ⟨b0,rfl,?_⟩;split at h
   ·rename_i hc
    subst h;exact ⟨rfl,rfl,rfl,rfl,.inl ⟨A8,rfl⟩⟩
   ·rename_i hc
    subst h
    grind
 have hZ:∀b,Z b->ZP Z β H (λk=>k∈ks) b:=λ_ h=> .inl h
 refine ⟨hW.below,λb hz=>?_,λb hz=>?_,λk b hk hl hp hz=>?_,λk b hk hl hp=>?_,λk b hk hl=>?_,λi j bi bj hi hj li lj pi e=>?_,λk b hk=>?_,hW.glob.mono hZ λ_ _=>rfl,λp hp=>⟨R.mono (n:=M H) (λ_ _=>rfl) hZ (λ_ _=>rfl) _ _ (hW.gh p hp).2 (hW.gh p hp).1,by rw [pubGo_length];exact (hW.gh p hp).2⟩,λD hD=>⟨.inl (hW.mks D hD).1,(hW.mks D hD).2⟩⟩
 ·exact aIe
 ·rcases hz with hz|⟨k,bk,_,h2,h3,rfl⟩
  ·exact hW.znew b hz
  ·exact .inr<|hW.low k bk h2 h3
 ·obtain ⟨b0,h1,h2,h3,h4,h5,h6⟩:=old k b hk
  rcases h6 with ⟨_,h6⟩ |⟨h6,h7⟩
  ·grind
  ·rcases hz with hz|⟨j,bj,g1,g2,g3,g4⟩
   ·exact hW.zown k b0 h1 (h2▸hl) (h7▸hp) hz
   ·exact h6<|(hW.inj k j b0 bj h1 g2 (h2▸hl) g3 (h7▸hp) g4)▸g1
 ·obtain ⟨b0,h1,h2,h3,h4,h5,h6⟩:=old k b hk
  rcases h6 with ⟨h6,_⟩ |⟨h6,h7⟩
  ·exact .inr ⟨k,b0,h6,h1,h2▸hl,rfl⟩
  ·exact .inl<|hW.zpub k b0 h1 (h2▸hl)<|h7▸hp
 ·obtain ⟨b0,h1,h2,_⟩:=old k b hk
  exact hW.low k b0 h1<|h2▸hl
 ·obtain ⟨b0,h1,h2,h3,h4,h5,h6⟩:=old i bi hi
  obtain ⟨c0,g1,g2,_⟩:=old j bj hj;rcases h6 with ⟨_,h6⟩ |⟨h6,h7⟩
  ·grind
  ·exact hW.inj i j b0 c0 h1 g1 (h2▸li) (g2▸lj) (h7▸pi) e
 ·obtain ⟨b0,h1,h2,h3,h4,h5,h6⟩:=old k b hk
  obtain ⟨q1,q2⟩:=hW.blk k b0 h1
  have q3:=q1.keep (β':=β) (Z':=ZP Z β H λk=>k∈ks) (w':=w) (n:=M H) (λ_ _=>rfl) hZ (λ_ _=>rfl) rfl (λ_=>rfl) q2
  rw [pubGo_length];refine ⟨?_,?_⟩
  ·unfold BlkR at q3|-
   rwa [h3,h4,h5]
  ·unfold okB at q2|-
   rwa [h3,h5]
def closedB_spec {ks:aH}{l:aD}(h:closedB H ks l=U):(∀k,k∈ownsL l->k∈ks)/\(∀k b,k∈ks->H[k]? =ah b->∀j,j∈b.owns->j∈ks):=by
 unfold closedB at h;refine ⟨λk hk=>A8,λk b hk hb j hj=>?_⟩
 grind
end Go.Sx
namespace Go.Sx
open Go.Proofs.YtjjcgjkagokchaaGreatDoor
open Go Go.RowKit
variable {P : Program} {G : Globs} {Γ : Specs} {β : Nat -> Loc} {Z : Nat -> Prop} {Z0 : Gz} {w w0 : World} {F : List LV} {H : List Blk} {a : Act}
def RO (β:aC->aL1) (Z:aC->Prop) (w:aO):aMn->aL7->Prop
 |none,aj=>True
 |some x,ah y=>R β Z w x y
 |_,_=>False
def bounds_run {lo hi:aL7}{len cap i j:aC}(hij:i<=j) (hlc:j<=cap) (hlo:match lo with|none=>i=0|some v=>∃k,v=ag k i) (hhi:match hi with|none=>j=len|some v=>∃k,v=ag k j) (w':aO):
  (Instr.sliceBounds U len cap lo hi aj).run P w'=.ok (i,j,cap) w':=by
 have bd:∀(k:aL5) (x y:aC) (c:BoundsCode),x<=y->(Instr.sliceBound (ag k x) y c).run P w'=.ok x w':=λk x y c hxy=>by
  exact aIY
 cases lo with
 |none=>
  subst hlo;cases hi with
  |none=>simp only at hhi;subst hhi;simp [Instr.sliceBounds]
  |some v=>simp only at hhi;obtain ⟨k,rfl⟩:=hhi;simp [Instr.sliceBounds,bd k j cap _ hlc]
 |some u=>
  obtain ⟨k',rfl⟩:=hlo;cases hi with
  |none=>simp only at hhi;subst hhi;simp [Instr.sliceBounds,bd k' i j _ hij]
  |some v=>simp only at hhi;obtain ⟨k,rfl⟩:=hhi;simp [Instr.sliceBounds,bd k j cap _ hlc,bd k' i j _ hij]
def sliceL_sound {t:aS} {x lv:LV} {y:aV} {lo hi:aMn} {vlo vhi:aL7} {N:aC} (h:(sliceL P t x lo hi).all λz=>z=lv) (hr:R β Z w x y) (hlo:RO β Z w lo vlo) (hhi:RO β Z w hi vhi) (hk:okV N x):
  ∃v,(∀w',(Instr.sliceAt t y vlo vhi aj).run P w'=.ok v w')/\R β Z w lv v/\okV N lv:=by
 unfold sliceL at h;split at h
 ·rename_i e hu
  split at h
  ·rename_i m hsz
   have e2:=λw=>run_sizeOf hsz w
   have bnd:∀(o:aMn) (v:aL7) (d n:Y),RO β Z w o v->(match o with|none=>ah d|some y=>match pl y with|some (.int _ n)=>ah n|_=>aj)=ah n->(match v with|none=>n=d|some v=>∃k,v=ag k n):=λo v d n ho hn=>by
    cases o with
    |none=>
     cases v with
     |none=>simp only at hn|-;exact (DE hn).symm
     |some v=>cases ho
    | some x=>
     cases v with
     |none=>cases ho
     | some v=>
      simp only [RO] at ho;simp only at hn|-;split at hn
      ·rename_i k n' hp
       simp only [Ac] at hn;subst hn;exact ⟨k,pl_R hp ho⟩
      ·cases hn
   have nn:∀(v:aL7) (d n:Y),0<=n->0<=d->(match v with|none=>n=d|some v=>∃k,v=ag k n)->(match v with|none=>n.toNat=d.toNat|some v=>∃k,v=ag k (n.toNat:Y)):=λv d n hn hd hv=>by
    cases v with
    |none=>simp only at hv|-;rw [hv]
    |some v=>simp only at hv|-;rw [Bu hn];exact hv
   simp only at h;split at h
   ·rename_i ty l
    split at h
    ·rename_i i j hi1 hi2
     split at h
     ·rename_i htn
      simp only [T.all] at h;obtain ⟨⟨h0,h1,h2⟩,h3⟩:=h;subst h3;simp only [R] at hr;obtain ⟨ad,cap,g1,g2,g3⟩:=hr
      have b1:=nn vlo 0 i h0 A0<|bnd lo vlo 0 i hlo hi1
      have b2:=nn vhi _ j A0 A0<|bnd hi vhi _ j hhi hi2
      simp only [Bs,Int.toNat_zero] at b1 b2;refine ⟨_,λw'=>by simp [Instr.sliceAt,Instr.slice,Bw hu,g1,bounds_run (P:=P) (len:=M l) (cap:=cap) (i:=i.toNat) (j:=j.toNat) A0 A0 b1 b2 w',e2];rfl,?_,ak⟩
      have hlen:M ((l.drop i.toNat).take<|j.toNat-i.toNat)=j.toNat-i.toNat:=CN
      simp only [R];rw [hlen];refine ⟨_,_,rfl,A0,λhn=>?_⟩
      obtain ⟨b,off,g4,g5,g6⟩:=g3 A0;rw [AE A0,g4];simp only [Gx,addr_add];refine ⟨b,_,rfl,g5,λp d hd=>?_⟩
      rw [IP] at hd;split at hd
      ·rw [DX] at hd
       have:=g6 (i.toNat+p) d hd
       rw [E6,<-FM,htn] at this;rw [htn];exact this
      ·cases hd
     ·cases h
    ·cases h
   ·rename_i k es off n
    split at h
    ·rename_i i j hi1 hi2
     split at h
     ·rename_i hes
      simp only [T.all] at h;obtain ⟨⟨h0,h1,h2⟩,h3⟩:=h;subst h3
      have b1:=nn vlo 0 i h0 A0<|bnd lo vlo 0 i hlo hi1
      have b2:=nn vhi _ j A0 A0<|bnd hi vhi _ j hhi hi2
      simp only [R] at hr;split at hr
      ·rename_i hcap
       obtain ⟨rfl,rfl,rfl⟩:=hr
       have hi0:i.toNat=0:=A0
       have hj0:j.toNat=0:=A0
       refine ⟨.slice aj 0 0,λw'=>by simp [Instr.sliceAt,Instr.slice,Bw hu,bounds_run (P:=P) (len:=0) (cap:=0) (i:=i.toNat) (j:=j.toNat) A0 A0 b1 b2 w',e2,hi0,hj0],by simp [R,hcap,hi0,hj0],hk⟩
      ·rename_i c hcap
       obtain ⟨g1,ad,g2,g3⟩:=hr;subst g2;refine ⟨_,λw'=>by simp [Instr.sliceAt,Instr.slice,Bw hu,bounds_run (P:=P) (len:=n) (cap:=c-off) (i:=i.toNat) (j:=j.toNat) A0 A0 b1 b2 w',e2];rfl,?_,hk⟩
       simp only [R,hcap];refine ⟨A0,if c-off=i.toNat then ad else ad.add (i.toNat*(m+1)),?_,λhn=>?_⟩
       ·rw [show c-(off+i.toNat)=c-off-i.toNat by omega]
        split<;>rfl
       ·rw [AE A0,g3 A0,addr_add,hes,E6,FM]
     ·cases h
    ·cases h
   ·cases h
  ·cases h
 ·cases h
def bounds3_run {lo:aL7}{kh km:aL5}{len cap i j:aC}(hij:i<=j) (hlc:j<=cap) (hlo:match lo with|none=>i=0|some v=>∃k,v=ag k i) (w':aO):
  (Instr.sliceBounds U len cap lo (ah<|ag kh j)<|ah<|ag km j).run P w'=.ok (i,j,j) w':=by
 have bd:∀(k:aL5) (x y:aC) (c:BoundsCode),x<=y->(Instr.sliceBound (ag k x) y c).run P w'=.ok x w':=λk x y c hxy=>by
  exact aIY
 cases lo with
 |none=>simp only at hlo;subst hlo;simp [Instr.sliceBounds,bd km j cap _ hlc,bd kh j j _<|Ar j]
 |some u=>
  obtain ⟨k',rfl⟩:=hlo
  simp [Instr.sliceBounds,bd km j cap _ hlc,bd kh j j _<|Ar j,bd k' i j _ hij]
def slice3L_sound {t:aS} {x lv hi mx:LV} {y vhi vmx:aV} {lo:aMn} {vlo:aL7} {N:aC} (h:(slice3L P t x lo hi mx).all λz=>z=lv) (hr:R β Z w x y) (hlo:RO β Z w lo vlo) (hhi:R β Z w hi vhi) (hmx:R β Z w mx vmx):
  ∃v,(∀w',(Instr.sliceAt t y vlo (ah vhi)<|ah vmx).run P w'=.ok v w')/\R β Z w lv v/\okV N lv:=by
 unfold slice3L at h;split at h
 ·rename_i e hu
  split at h
  ·rename_i m hsz
   have e2:=λw=>run_sizeOf hsz w
   split at h
   ·rename_i ty l
    split at h
    ·rename_i i kj j kq q hi1 hi2 hi3
     have v2:=pl_R hi2 hhi
     have v3:=pl_R hi3 hmx
     subst v2;subst v3;split at h
     ·rename_i htn
      obtain ⟨⟨h0,h1,h2,rfl⟩,h3⟩:=h;subst h3;obtain ⟨ad,cap,g1,g2,g3⟩:=hr
      have b1:(match (generalizing:=false) vlo with|none=>i.toNat=0|some v=>∃k,v=ag k (i.toNat:Y)):=by
       cases lo with
       |none=>
        cases vlo with
        |none=>simp only [Ac] at hi1;subst hi1;rfl
        |some v=>cases hlo
       | some u=>
        cases vlo with
        |none=>cases hlo
        | some v=>
         simp only at hi1|-;split at hi1
         ·rename_i k n' hp
          simp only [Ac] at hi1;subst hi1;exact ⟨k,by rw [Bu h0];exact pl_R hp hlo⟩
         ·cases hi1
      have hj:q=((q.toNat:aC):Y):=(Bu A0).symm
      have hb:=λw'=>bounds3_run (P:=P) (lo:=vlo) (kh:=kj) (km:=kq) (len:=M l) (cap:=cap) (i:=i.toNat) (j:=q.toNat) A0 A0 b1 w'
      rw [<-hj] at hb;refine ⟨_,λw'=>by simp [Instr.sliceAt,Instr.slice,Bw hu,g1,hb w',e2];rfl,?_,ak⟩
      have hlen:M ((l.drop i.toNat).take<|q.toNat-i.toNat)=q.toNat-i.toNat:=CN
      simp only [R];rw [hlen];refine ⟨_,_,rfl,A0,λhn=>?_⟩
      obtain ⟨b,off,g4,g5,g6⟩:=g3 A0;rw [AE A0,g4];simp only [Gx,addr_add];refine ⟨b,_,rfl,g5,λp d hd=>?_⟩
      rw [IP] at hd;split at hd
      ·rw [DX] at hd
       have:=g6 (i.toNat+p) d hd
       grind
      ·cases hd
     ·cases h
    ·cases h
   ·cases h
  ·cases h
 ·cases h
def find_chain {kd:aL5}{n:Y}{z:aV}{lv:LV}:∀(ks:aB) (vs:aD) (es:aMh) (s:aC),(lookChain kd n z ks vs).all (λr=>r=lv)->M ks=M vs->es.map (·.key)=ks.map (.int kd)->RL β Z w vs (es.map (·.val))->
  (∃s' v,aA (.int kd) (ag kd n) es s=ah (ah (s',v))/\R β Z w lv v/\∃i:aC,vs[i]? =ah lv)\/(aA (.int kd) (ag kd n) es s=ah aj/\lv=.v z)
 | [],[],es,s,h,_,hk,hr=>by
  exact aJT
 | [],_::_,_,_,_,hl,_,_=>A8
 |_::_,[],_,_,_,hl,_,_=>A8
 | k::ks,v::vs,es,s,h,hl,hk,hr=>by
  cases es with
  |nil=>simp at hk
  | cons e es=>
   simp only [D2,FL] at hk;obtain ⟨y,zs,h1,h2,h3⟩:=hr;obtain ⟨rfl,rfl⟩:=h1;cases hb:(n==k) with
   |true=>
    have:=h.1 hb
    subst this;exact .inl ⟨s,e.val,Qi,h2,0,rfl⟩
   |false=>
    have hf:aA (.int kd) (ag kd n) (e::es) s=aA (.int kd) (ag kd n) es (s+1):=Qi
    rw [hf];rcases find_chain ks vs es (s+1) (h.2 hb) A8 hk.2 h3 with ⟨s',v',q1,q2,i,q3⟩ |q
    ·exact .inl ⟨s',v',q1,q2,i+1,A8⟩
    ·exact .inr q
def checkKey_int {kt:aS}{kd:aL5}(hu:P.underlying kt=ah (.int kd)) (e:aL) (v:aV) (w':aO):(Instr.checkKey e 10000 kt v).run P w'=.ok () w':=by
 unfold Instr.checkKey
 simp [Bw hu]
def lookM_sound {t:aS}{x q lv:LV}{y z:aV}(hW:RW G w0 Z0 Z β H w) (h:(lookM P H t x q).all λr=>r=lv) (hr:R β Z w x y) (hq:R β Z w q z) (hk:okV (M H) x):
  ∃v,(∀w',(∀b,(Z b\/∃k,x=.om k/\b=(β k).b)->w'.heap[b]? =w.heap[b]?)->(Instr.lookup t y z X).run P w'=.ok v w')/\R β Z w lv v/\okV (M H) lv:=by
 unfold lookM at h;split at h
 ·rename_i kt et hu
  split at h
  ·rename_i kd z0 kd' n hku hz hp
   split at h
   ·rename_i hkd
    obtain ⟨rfl,hz1⟩:=hkd
    have hzq:=pl_R hp hq
    have main:∀(r:aC) (es:Array MapEntry) (clock:aC) (ks:aB) (vs:aD),y=.map (ah r)->w.heap[r]? =ah (.map es clock)->es.toList.map (·.key)=ks.map (.int kd')->RL β Z w vs (es.toList.map (·.val))->M ks=M vs->okL (M H) vs->(lookChain kd' n z0 ks vs).all (λr=>r=lv)->(Z r\/∃k,x=.om k/\r=(β k).b)->
      ∃v,(∀w',(∀b,(Z b\/∃k,x=.om k/\b=(β k).b)->w'.heap[b]? =w.heap[b]?)->(Instr.lookup t y z X).run P w'=.ok v w')/\R β Z w lv v/\okV (M H) lv:=λr es clock ks vs hy hh hkk hvv hl hok hch hzr=>by
     rcases find_chain ks vs es.toList 0 hch hl hkk hvv with ⟨s',v',q1,q2,i,q3⟩ |⟨q1,q2⟩
     ·refine ⟨v',λw' hw'=>?_,q2,okL.get i _ hok q3⟩
      exact aI7
     ·refine ⟨z0,λw' hw'=>?_,by rw [q2];simp [R],by rw [q2];trivial⟩
      exact aHW
    split at h
    ·exact aJJ
    ·rename_i k
     split at h
     ·rename_i hb
      split at h
      ·rename_i hkk
       obtain ⟨rfl,hl⟩:=hkk;obtain ⟨b1,b2⟩:=hW.blk k _ hb;obtain ⟨es,clock,g1,g2,g3⟩:=b1;exact aIL
      ·cases h
     ·cases h
    ·cases h
   ·cases h
  ·cases h
 ·cases h
def find_chain2 {kd:aL5}{n:Y}{z:aV}{lv:LV}:∀(ks:aB) (vs:aD) (es:aMh) (s:aC),(lookChain2 kd n z ks vs).all (λr=>r=lv)->M ks=M vs->es.map (·.key)=ks.map (.int kd)->RL β Z w vs (es.map (·.val))->
  (∃s' v u,aA (.int kd) (ag kd n) es s=ah (ah (s',v))/\R β Z w u v/\lv=.tup [norm u,.bl U]/\∃i:aC,vs[i]? =ah u)\/(aA (.int kd) (ag kd n) es s=ah aj/\lv=.tup [.v z,.bl X])
 | [],[],es,s,h,_,hk,hr=>by
  exact aJT
 | [],_::_,_,_,_,hl,_,_=>A8
 |_::_,[],_,_,_,hl,_,_=>A8
 | k::ks,v::vs,es,s,h,hl,hk,hr=>by
  cases es with
  |nil=>simp at hk
  | cons e es=>
   simp only [D2,FL] at hk;obtain ⟨y,zs,h1,h2,h3⟩:=hr;obtain ⟨rfl,rfl⟩:=h1;cases hb:(n==k) with
   |true=>
    have:=h.1 hb
    subst this;exact .inl ⟨s,e.val,v,Qi,h2,rfl,0,rfl⟩
   |false=>
    have hf:aA (.int kd) (ag kd n) (e::es) s=aA (.int kd) (ag kd n) es (s+1):=Qi
    rw [hf];rcases find_chain2 ks vs es (s+1) (h.2 hb) A8 hk.2 h3 with ⟨s',v',u',q1,q2,q4,i,q3⟩ |q
    ·exact .inl ⟨s',v',u',q1,q2,q4,i+1,A8⟩
    ·exact .inr q
def lookM2_sound {t:aS}{x q lv:LV}{y z:aV}(hW:RW G w0 Z0 Z β H w) (h:(lookM2 P H t x q).all λr=>r=lv) (hr:R β Z w x y) (hq:R β Z w q z) (hk:okV (M H) x):
  ∃v,(∀w',(∀b,(Z b\/∃k,x=.om k/\b=(β k).b)->w'.heap[b]? =w.heap[b]?)->(Instr.lookup t y z U).run P w'=.ok v w')/\R β Z w lv v/\okV (M H) lv:=by
 unfold lookM2 at h;split at h
 ·rename_i kt et hu
  split at h
  ·rename_i kd z0 kd' n hku hz hp
   split at h
   ·rename_i hkd
    obtain ⟨rfl,hz1⟩:=hkd
    have hzq:=pl_R hp hq
    have main:∀(r:aC) (es:Array MapEntry) (clock:aC) (ks:aB) (vs:aD),y=.map (ah r)->w.heap[r]? =ah (.map es clock)->es.toList.map (·.key)=ks.map (.int kd')->RL β Z w vs (es.toList.map (·.val))->M ks=M vs->okL (M H) vs->(lookChain2 kd' n z0 ks vs).all (λr=>r=lv)->(Z r\/∃k,x=.om k/\r=(β k).b)->
      ∃v,(∀w',(∀b,(Z b\/∃k,x=.om k/\b=(β k).b)->w'.heap[b]? =w.heap[b]?)->(Instr.lookup t y z U).run P w'=.ok v w')/\R β Z w lv v/\okV (M H) lv:=λr es clock ks vs hy hh hkk hvv hl hok hch hzr=>by
     rcases find_chain2 ks vs es.toList 0 hch hl hkk hvv with ⟨s',v',u,q1,q2,q4,i,q3⟩ |⟨q1,q2⟩
     ·refine ⟨.tuple #[v',.bool U],λw' hw'=>?_,by rw [q4];exact ⟨_,rfl,v',[.bool U],rfl,norm_R q2,_,[],rfl,rfl,rfl⟩,by rw [q4];exact ⟨norm_ok<|okL.get i _ hok q3,ak,ak⟩⟩
      exact aI7
     ·refine ⟨.tuple #[z0,.bool X],λw' hw'=>?_,by rw [q2];exact ⟨_,rfl,z0,[.bool X],rfl,rfl,_,[],rfl,rfl,rfl⟩,by rw [q2];exact ⟨ak,ak,ak⟩⟩
      exact aHW
    split at h
    ·exact aJJ
    ·rename_i k
     split at h
     ·rename_i hb
      split at h
      ·rename_i hkk
       obtain ⟨rfl,hl⟩:=hkk;obtain ⟨b1,b2⟩:=hW.blk k _ hb;simp only [BlkR] at b1;obtain ⟨es,clock,g1,g2,g3⟩:=b1;simp only [R] at hr;exact aIL
      ·cases h
     ·cases h
    ·cases h
   ·cases h
  ·cases h
 ·cases h
def find_none {kd:aL5}{n:Y}:∀(ks:aB) (es:aMh) (s:aC),ks.contains n=X->es.map (·.key)=ks.map (.int kd)->aA (.int kd) (ag kd n) es s=ah aj
 | [],es,s,_,hk=>by
  have:es=[]:=EN
  subst this;rfl
 | k::ks,es,s,hc,hk=>by
  cases es with
  |nil=>simp at hk
  |cons e es=>
   simp only [D2,FL] at hk;simp only [List.contains_cons,EM] at hc
   have hf:aA (.int kd) (ag kd n) (e::es) s=aA (.int kd) (ag kd n) es (s+1):=by simp [aA,Instr.sameNow,hk.1,hc.1]
   rw [hf];exact find_none ks es (s+1) hc.2 hk.2
def insM_sound {t:aS}{x q r:LV}{y z u:aV}{H':aE}(hW:RW G w0 Z0 Z β H w) (h:(insM P H t x q r).all λr=>r=H') (hr:R β Z w x y) (hq:R β Z w q z) (hu:R β Z w r u) (hrk:okV (M H) r):
  ∃w',(Instr.mapUpdate t y z u).run P w=.ok () w'/\RW G w0 Z0 Z β H' w'/\M H'=M H/\(∀b,Z b->w'.heap[b]? =w.heap[b]?)/\Near (lvB β H<|owns x) w w':=by
 unfold insM at h;split at h
 ·rename_i kt et hut
  split at h
  ·rename_i kd kd' n k hku hp
   split at h
   ·rename_i c0 bt kd2 ks vs hb
    split at h
    ·rename_i hle
     obtain ⟨rfl,rfl,hl,hnc⟩:=hle;subst h;obtain ⟨b1,b2⟩:=hW.blk k _ hb;obtain ⟨es,clock,g1,g2,g3⟩:=b1;simp only [R] at hr
     have hzq:=pl_R hp hq
     have hlt:=(Fp.1 g1).1
     have hget:(getObj (β k).b).run P w=.ok (.map es clock) w:=aKf
     let w':aO:={w with heap:=w.heap.setIfInBounds (β k).b<|.map (es.push {key:=z,val:=u,born:=clock})<|clock+1}
     have hset:(setObj (β k).b<|.map (es.push {key:=z,val:=u,born:=clock})<|clock+1).run P w=.ok () w':=aKT
     have hfn:=find_none ks es.toList 0 hnc g2
     have hlive:=trivial
     have hne:∀j,j≠(β k).b->w'.heap[j]? =w.heap[j]? :=λj hj=>A8
     have hZw:∀b',Z b'->w'.heap[b']? =w.heap[b']? :=λb' hz=>hne b' λe=>hW.zown k _ hb hlive rfl<|e▸hz
     refine ⟨w',?_,?_,AH,hZw,⟨rfl,rfl,rfl,dj,λj _ hj=>hne j λe=>hj<|e▸lvB_one hb hlive rfl⟩⟩
     ·rw [hzq] at hset
      simp [Instr.mapUpdate,Bw hut,hr,hget,checkKey_int hku,Instr.findKey,Bw hku,hzq,hfn,hset]
     ·refine hW.set hb hlive rfl rfl ⟨ak,okL.append b2.2 ⟨hrk,ak⟩⟩ dj ⟨rfl,rfl,rfl⟩ hne ?_
      refine ⟨es.push {key:=z,val:=u,born:=clock},clock+1,by simp [w',hlt],by simp [g2,hzq],?_⟩
      have h1:RL β Z w (vs++[r]) (es.toList.map (·.val)++[u]):=g3.app (by simp only [RL];exact ⟨u,[],rfl,hu,rfl⟩)
      have hok1:okL (M H) [r]:=⟨hrk,ak⟩
      have h2:=RL.mono (n:=M H) (β':=β) (Z':=Z) (λ_ _=>rfl) (λ_ h=>h) hZw _ _ (okL.append b2.2 hok1) h1
      grind
    ·cases h
   ·cases h
  ·cases h
 ·cases h
def keyD_V:∀ {e:Ty}{v:aV}{d:e.D},keyD e v=ah d->v=keyV e d
 | .int k,v,d,h=>by
  simp only [keyD] at h;split at h
  ·split at h
   ·rename_i hk;simp only [Ac] at h;subst h hk;rfl
   ·cases h
  ·cases h
 | .str,v,d,h=>by
  simp only [keyD] at h;split at h
  ·simp only [Ac] at h;subst h;rfl
  ·cases h
 | .bool,_,_,h=>sF
 | .sl _,_,_,h=>sF
 | .pair _ _,_,_,h=>sF
def keyK:Ty->TypeDesc
 | .int k=> .int k
 |_=> .string
def find_int {k:aL5}{d:Y}:∀(l:aB) (es:aMh) (s:aC),es.map (·.key)=l.map (.int k)->(∀x,x∈es->x.val=.bool U)->
  (l.contains d=U/\∃s',aA (.int k) (ag k d) es s=ah (ah (s',.bool U)))\/(l.contains d=X/\aA (.int k) (ag k d) es s=ah aj)
 | [],es,s,hk,_=>by
  exact aJY
 | x::l,es,s,hk,hv=>by
  cases es with
  |nil=>simp at hk
  | cons e es=>
   simp only [D2,FL] at hk;cases hb:(d==x) with
   |true=>
    refine .inl ⟨A8,s,?_⟩
    have hv1:=hv e AH
    simp [aA,Instr.sameNow,hk.1,hb,hv1]
   |false=>
    have hf:aA (.int k) (ag k d) (e::es) s=aA (.int k) (ag k d) es (s+1):=Qi
    rw [hf]
    have hc:(x::l).contains d=l.contains d:=A8
    rw [hc];exact find_int l es (s+1) hk.2 λy hy=>hv y A8
def find_str {d:bz}:∀(l:aF) (es:aMh) (s:aC),es.map (·.key)=l.map .string->(∀x,x∈es->x.val=.bool U)->
  (l.contains d=U/\∃s',aA .string (.string d) es s=ah (ah (s',.bool U)))\/(l.contains d=X/\aA .string (.string d) es s=ah aj)
 | [],es,s,hk,_=>by
  exact aJY
 | x::l,es,s,hk,hv=>by
  cases es with
  |nil=>simp at hk
  | cons e es=>
   simp only [D2,FL] at hk;cases hb:(d==x) with
   |true=>
    refine .inl ⟨A8,s,?_⟩
    have hv1:=hv e AH
    simp [aA,Instr.sameNow,hk.1,hb,hv1]
   |false=>
    have hf:aA .string (.string d) (e::es) s=aA .string (.string d) es (s+1):=Qi
    rw [hf]
    have hc:(x::l).contains d=l.contains d:=A8
    rw [hc];exact find_str l es (s+1) hk.2 λy hy=>hv y A8
def find_st {e:Ty}{v:aV}{d:e.D}(hd:keyD e v=ah d) (l:List e.D) (es:aMh) (s:aC) (hk:es.map (·.key)=List.map (keyV e) l) (hv:∀x,x∈es->x.val=.bool U):
  (memD e d l=U/\∃s',aA (keyK e) v es s=ah (ah (s',.bool U)))\/(memD e d l=X/\aA (keyK e) v es s=ah aj):=by
 have hvv:=keyD_V hd
 subst hvv;cases e with
 |int k=>exact find_int l es s hk hv
 |str=>exact find_str l es s hk hv
 |bool=>simp [keyD] at hd
 |sl _=>simp [keyD] at hd
 |pair _ _=>simp [keyD] at hd
def setT_some {t:aS}{e:Ty}(h:setT P t=ah e):∃kt et,P.underlying t=ah (.map kt et)/\P.underlying et=ah .bool/\P.underlying kt=ah (keyK e)/\(∀(b:aL) (v:aV) (w':aO),(Instr.checkKey b 10000 kt v).run P w'=.ok () w')/\zeroT P et=ah (.bool X):=by
 unfold setT at h;split at h
 ·rename_i kt et hu
  split at h
  ·rename_i k h1 h2 h3
   simp only [Ac] at h;subst h;exact ⟨kt,et,hu,h1,h2,λb v w'=>checkKey_int h2 b v w',h3⟩
  ·rename_i h1 h2 h3
   simp only [Ac] at h;subst h;exact ⟨kt,et,hu,h1,h2,λb v w'=>by unfold Instr.checkKey;simp [Bw h2],h3⟩
  ·cases h
 ·cases h
def lookL_sound {t:aS}{x q lv:LV}{y z:aV}(hW:RW G w0 Z0 Z β H w) (h:(lookL P H t x q).all λr=>r=lv) (hr:R β Z w x y) (hq:R β Z w q z) (hk:okV (M H) x):
  ∃v,(∀w',(∀b,(Z b\/∃k,x=.om k/\b=(β k).b)->w'.heap[b]? =w.heap[b]?)->(Instr.lookup t y z X).run P w'=.ok v w')/\R β Z w lv v/\okV (M H) lv:=by
 unfold lookL at h;split at h
 ·rename_i k
  split at h
  ·rename_i c0 bt e l pp hb
   unfold lookS at h;split at h
   ·rename_i e' v hs hp
    split at h
    ·rename_i he d _ hd
     obtain ⟨he⟩:=he;subst he;subst h;obtain ⟨kt,et,u1,u2,u3,u4,u5⟩:=setT_some hs;obtain ⟨b1,b2⟩:=hW.blk k _ hb;obtain ⟨es,clock,g1,g2,g3⟩:=b1;simp only [R] at hr
     have hzq:=pl_R hp hq
     rcases find_st hd l es.toList 0 g2 g3 with ⟨m1,s',m2⟩ |⟨m1,m2⟩
     ·refine ⟨.bool U,λw' hw'=>?_,by simp only [R,m1],ak⟩
      have hh':w'.heap[(β k).b]? =ah (.map es clock):=A8
      have hget:(getObj (β k).b).run P w'=.ok (.map es clock) w':=dW
      simp [Instr.lookup,Bw u1,hr,hget,u4,Instr.findKey,Bw u3,hzq,m2]
     ·refine ⟨.bool X,λw' hw'=>?_,by simp only [R,m1],ak⟩
      have hh':w'.heap[(β k).b]? =ah (.map es clock):=A8
      have hget:(getObj (β k).b).run P w'=.ok (.map es clock) w':=dW
      have hz0:=λw=>run_zero u5 w
      simp [Instr.lookup,Bw u1,hr,hget,u4,Instr.findKey,Bw u3,hzq,m2,hz0]
    ·cases h
   ·cases h
  ·exact lookM_sound hW h hr hq hk
 ·exact lookM_sound hW h hr hq hk
def insL_sound {t:aS}{x q r:LV}{y z u:aV}{H':aE}(hW:RW G w0 Z0 Z β H w) (h:(insL P H t x q r).all λr=>r=H') (hr:R β Z w x y) (hq:R β Z w q z) (hu:R β Z w r u) (hrk:okV (M H) r):
  ∃w',(Instr.mapUpdate t y z u).run P w=.ok () w'/\RW G w0 Z0 Z β H' w'/\M H'=M H/\(∀b,Z b->w'.heap[b]? =w.heap[b]?)/\Near (lvB β H<|owns x) w w':=by
 unfold insL at h;split at h
 ·rename_i k
  split at h
  ·rename_i c0 bt e l hb
   split at h
   ·rename_i e' v hs hp
    split at h
    ·rename_i he d _ hd
     obtain ⟨he⟩:=he;subst he;obtain ⟨hnm,h⟩:=h;subst h;obtain ⟨kt,et,u1,u2,u3,u4,u5⟩:=setT_some hs;obtain ⟨b1,b2⟩:=hW.blk k _ hb;obtain ⟨es,clock,g1,g2,g3⟩:=b1;simp only [R] at hr hu
     have hzq:=pl_R hp hq
     have hlt:=(Fp.1 g1).1
     have hget:(getObj (β k).b).run P w=.ok (.map es clock) w:=aKf
     let w':aO:={w with heap:=w.heap.setIfInBounds (β k).b<|.map (es.push {key:=z,val:=u,born:=clock})<|clock+1}
     have hset:(setObj (β k).b<|.map (es.push {key:=z,val:=u,born:=clock})<|clock+1).run P w=.ok () w':=aKT
     have hfn:aA (keyK e') v es.toList 0=ah none:=by
      rcases find_st hd l es.toList 0 g2 g3 with ⟨m1,_⟩ |⟨_,m2⟩
      ·grind
      ·exact m2
     have hlive:=trivial
     have hne:∀j,j≠(β k).b->w'.heap[j]? =w.heap[j]? :=λj hj=>A8
     have hZw:∀b',Z b'->w'.heap[b']? =w.heap[b']? :=λb' hz=>hne b' λe=>hW.zown k _ hb hlive rfl<|e▸hz
     refine ⟨w',?_,?_,AH,hZw,⟨rfl,rfl,rfl,dj,λj _ hj=>hne j λe=>hj<|e▸lvB_one hb hlive rfl⟩⟩
     ·rw [hzq] at hset
      simp [Instr.mapUpdate,Bw u1,hr,hget,u4,Instr.findKey,Bw u3,hzq,hfn,hset]
     ·refine hW.set hb hlive rfl rfl ⟨ak,ak⟩ dj ⟨rfl,rfl,rfl⟩ hne ?_
      refine ⟨es.push {key:=z,val:=u,born:=clock},clock+1,by simp [w',hlt],?_,λx hx=>?_⟩
      ·rw [Array.toList_push,J8,J8,g2]
       simp [hzq,keyD_V hd]
      ·rw [Array.toList_push,BN] at hx
       rcases hx with hx|hx
       ·exact g3 x hx
       ·grind
    ·cases h
   ·cases h
  ·exact insM_sound hW h hr hq hu hrk
 ·exact insM_sound hW h hr hq hu hrk
def RW.newMap {kd:aL5}{t:aS}(hW:RW G w0 Z0 Z β H w):
  ∃β',(∀k,k<M H->β' k=β k)/\(β'<|M H).b=w.heap.size/\RW G w0 Z0 Z β' (H++[⟨[],t,.mp kd [] [],X⟩]) (w.alloc<|.map #[] 0)/\Below w.heap.size w (w.alloc<|.map #[] 0):=by
 have hbw:Below w.heap.size w (w.alloc<|.map #[] 0):=(Below.refl _ _).alloc (Ar _) _
 obtain ⟨β',h1,h2,h3⟩:=(hW.same hbw).adopt (ℓ:=⟨w.heap.size,0,aj⟩) (nb:=⟨[],t,.mp kd [] [],X⟩) rfl ⟨ak,ak⟩ (λ_=>⟨λhz=>Vn,hW.below.size,λj bj hj lj e=>OQ⟩) (λβ' h1 h2=>by
  simp only [BlkR,h2];refine ⟨#[],0,?_,AH,W8⟩
  show (w.heap.push _)[w.heap.size]? =_
  simp)
 grind
def RW.newSet {e:Ty}{t:aS}(hW:RW G w0 Z0 Z β H w):
  ∃β',(∀k,k<M H->β' k=β k)/\(β'<|M H).b=w.heap.size/\RW G w0 Z0 Z β' (H++[⟨[],t,.st e [],X⟩]) (w.alloc<|.map #[] 0)/\Below w.heap.size w (w.alloc<|.map #[] 0):=by
 have hbw:Below w.heap.size w (w.alloc<|.map #[] 0):=(Below.refl _ _).alloc (Ar _) _
 obtain ⟨β',h1,h2,h3⟩:=(hW.same hbw).adopt (ℓ:=⟨w.heap.size,0,aj⟩) (nb:=⟨[],t,.st e [],X⟩) rfl ⟨ak,ak⟩ (λ_=>⟨λhz=>Vn,hW.below.size,λj bj hj lj e=>OQ⟩) (λβ' h1 h2=>by
  simp only [BlkR,h2];refine ⟨#[],0,?_,AH,AH⟩
  show (w.heap.push _)[w.heap.size]? =_
  simp)
 grind
end Go.Sx
namespace Go.Sx
open Go Go.RowKit Go.Proofs.YtjjcgjkagokchaaGreatDoor
variable {P : Program} {G : Globs} {Γ : Specs} {β : Nat -> Loc} {Z : Nat -> Prop} {Z0 : Gz} {w w0 : World} {F : List LV} {H : List Blk} {a : Act} {ds : List Deferred}
abbrev β0:aC->aL1:=λ_=>⟨0,0,aj⟩
def Valid (P:aR) (G:bb) (f:bg) (S:aD->T LV):Prop:=
 ∀(args:aD) (vals:aW) (w:aO) (Z:aC->Prop) (lv:LV),(∀b,Z b->b<w.heap.size)->GlOk G Z w->okL 0 args->RL β0 Z w args vals.toList->(S args).all (λx=>x=lv)->
  Calls P f vals w λe w'=>Below w.heap.size w w'/\∃v,e=.returned v/\okV 0 lv/\R β0 (λb=>Z b\/(w.heap.size<=b/\b<w'.heap.size)) w' lv v
mutual
def noOwn_ok {n:aC}:∀(x:LV),noOwn x=U->okV n x->okV 0 x
 | .v _,_,_=>trivial
 | .bl _,_,_=>trivial
 | .ki _ _,_,_=>trivial
 | .own _ _,h,_=>dS
 | .agg l,h,hk=>Vx
 | .tup l,h,hk=>Vx
 | .fn _ l,h,hk=>Vx
 | .fb _ l,h,hk=>Vx
 | .xq _ _,_,hk=>aKc
 | .os ..,h,_=>dS
 | .op ..,h,_=>dS
 | .om _,h,_=>dS
 | .mp _ _ l,h,hk=>Vx
 | .xl _ _,_,_=>trivial
 | .junk,_,_=>trivial
def noOwnL_ok {n:aC}:∀(x:aD),noOwnL x=U->okL n x->okL 0 x
 | [],_,_=>trivial
 |x::xs,h,hk=>by
  simp only [okL,noOwnL,AS] at*;exact ⟨noOwn_ok x h.1 hk.1,noOwnL_ok xs h.2 hk.2⟩
end
def onlyPl_all {t:T LV}{lv:LV}(h:(onlyPl t).all λx=>x=lv):t.all (λx=>x=lv)/\isPl lv=true:=by
 induction t with
 |ok x=>
  simp only [onlyPl] at h;split at h
  ·rename_i hp;simp only [T.all] at h|-;subst h;exact ⟨rfl,hp⟩
  ·cases h
 |br b t e iht ihe=>
  cases b with
  |true=>obtain ⟨h1,h2⟩:=iht<|h.1 rfl;exact ⟨⟨λ_=>h1,λhb=>IV⟩,h2⟩
  |false=>obtain ⟨h1,h2⟩:=ihe<|h.2 rfl;exact ⟨⟨λhb=>IV,λ_=>h1⟩,h2⟩
 |req p t ih=>
  obtain ⟨h1,h2⟩:=ih h.2;exact ⟨⟨h.1,h1⟩,h2⟩
 |no=>cases h
def touchB (G:bb) (F:aD) (β:aC->aL1) (H:aE) (o:aU):aH:=lvB β H<|wrt G F o
def Post (ds:aL0) (G:bb) (w0:aO) (Z0:Gz) (F:aD) (a:bc) (β:aC->aL1) (H:aE) (w:aO) (o:aU) (lv:LV) (H':aE) (v:aV) (w':aO):Prop:=
 ∃Z' β',RW G w0 Z0 Z' β' H' w'/\RF ds β' Z' w' (M H') F a/\R β' Z' w' lv v/\okV (M H') lv/\
  (M H)<=M H'/\(∀k,k<M H->β' k=β k)/\(∀k,M H<=k->k<M H'->w.heap.size<=(β' k).b\/(β' k).b∈touchB G F β H o)/\Near (touchB G F β H o) w w'
def near_of_below {tr:aH}{w w':aO}(h:Below w.heap.size w w'):Near tr w w':=⟨h.os,h.tape,h.output,h.size,λk hk _=>h.block k hk⟩
def post_value {o:aU}{lv:LV}{v:aV}(hW:RW G w0 Z0 Z β H w) (hF:RF ds β Z w (M H) F a) (hrun:(execOp a.eval o).run P w=.ok (.value v) w) (hr:R β Z w lv v) (hk:okV (M H) lv):
  actUpon P (Post ds G w0 Z0 F a β H w o lv H) ((execOp a.eval o).run P w):=by
 rw [hrun];exact ⟨Z,β,hW,hF,hr,hk,Ar _,λ_ _=>rfl,λk h1 h2=>A0,Near.refl _ _⟩
def run_of_pure {α:Type}{s:Sem α}{x:α}(h:pureRun P s=ah x):∀w',s.run P w'=.ok x w':=λw'=>pureRun_run w' h
mutual
def eqV_run:∀(d:aC) (t:aS) (x y:aV) (b:aL),eqV P d t x y=ah b->∀(e:aC) (w:aO),(Go.Op.equalIn (d+e) t x y).run P w=.ok b w
 |0,_,_,_,_,h=>by simp [eqV] at h
 | d+1,t,x,y,b,h=>λe w=>by
  rw [Nat.add_right_comm];simp only [eqV] at h;split at h
  ·rename_i k0 k a k' c hu
   split at h
   ·rename_i hk
    subst hk;simp only [Ac] at h;subst h;exact run_equalIn_int w _ t k k0 a c hu
   ·cases h
  ·rename_i a c hu
   simp only [Ac] at h;subst h;exact run_equalIn_bool w _ t a c hu
  ·rename_i a c hu
   simp only [Ac] at h;subst h;rw [run_equalIn_string w _ t a c hu,beq_toListBytes]
  ·rename_i fs xs ys hu
   split at h
   ·cases h
   ·rename_i hs
    have hf:P.fieldsOf t=fs:=by simp [Program.fieldsOf,hu]
    rw [run_equalIn_struct w _ t xs ys (by rw [hf];exact hu) (by simpa using hs),hf]
    simp only [Option.map_eq_some_iff] at h;obtain ⟨l,h1,h2⟩:=h;rw [<-h2];exact eqFs_run d xs ys fs.toList l h1 e w
  ·cases h
def eqFs_run:∀(d:aC) (xs ys:aW) (fs:aMr) (l:bh),eqFs P d xs ys fs=ah l->∀(e:aC) (w:aO),(Go.Op.eqFields (d+e) xs ys fs).run P w=.ok (andL l) w
 |d,xs,ys,[],l,h=>λe w=>by
  have:l=[]:=by cases d<;>simpa [eqFs] using h.symm
  subst this
  simp [Go.Op.eqFields,andL]
 |0,xs,ys,f::fs,l,h=>by simp [eqFs] at h
 | d +1,xs,ys,f::fs,l,h=>λe w=>by
  simp only [eqFs] at h;split at h
  ·cases h
  ·rename_i hn
   split at h
   ·rename_i x y hx hy
    split at h
    ·rename_i p ps hp hps
     simp only [Ac] at h;subst h
     have e1:=run_of_pure hx w
     have e2:=run_of_pure hy w
     have e3:=eqV_run d f.type x y p hp (1+e) w
     have e4:=eqFs_run d xs ys fs ps hps (1+e) w
     rw [<-FM] at e3 e4;simp only [Go.Op.eqFields,hn,ne_eq,not_false_eq_true,BP,cH,e1,e2,e3,cR,Sem.run_ite,qC,e4];cases p with
     |false=>cases ps<;>simp [andL]
     |true=>cases ps<;>simp [andL]
    ·cases h
   ·cases h
end
def eqArm_run {o:aU}{e:aL2->aV}{y:aV}(h:eqArm P o.op e=ah (ah y)) (w:aO):(execOp e o).run P w=.ok (.value y) w:=by
 unfold eqArm at h;split at h
 ·rename_i op t x z t' ho
  split at h
  ·rename_i neg hneg
   split at h
   ·rename_i xs ys hx hy
    split at h
    ·rename_i g1 b g2 g3
     have e1:=run_of_pure g2 w
     have e2:=eqV_run 100 t _ _ b g3 9900 w
     simp only [Ac] at h;unfold isEqOp at hneg;split at hneg
     ·simp only [Ac] at hneg
      subst hneg h
      simp [execOp,ho,hx,hy,e1,run_eql_struct,e2]
     ·simp only [Ac] at hneg
      subst hneg h
      simp [execOp,ho,hx,hy,e1,run_neq_struct,e2]
     ·cases hneg
    ·cases h
   ·cases h
  ·cases h
 ·cases h
def genV_run {o:aU}{e:aL2->aV}{y:aV}(h:genV P o e=ah y) (w:aO):(execOp e o).run P w=.ok (.value y) w:=by
 unfold genV at h;split at h
 ·rename_i r hr
  subst h;exact eqArm_run hr w
 ·split at h
  ·rename_i z hz
   simp only [Ac] at h;subst h;exact pureRun_run w hz
  ·cases h
def kn_R (y:aV):R β Z w (kn y) y:=by cases y<;>simp only [kn,R]
def kn_ok {n:aC}(y:aV):okV n (kn y):=by cases y<;>trivial
def genL_sound {o:aU}{lv:LV}(hsel:∀cs b,o.op≠ .select cs b) (hW:RW G w0 Z0 Z β H w) (hF:RF ds β Z w (M H) F a) (h:(genL P G F o).all λx=>x=lv):
  actUpon P (Post ds G w0 Z0 F a β H w o lv H) ((execOp a.eval o).run P w):=by
 unfold genL at h;split at h
 ·rename_i hpl
  split at h
  ·rename_i y hy
   have hcong:execOp a.eval o=execOp (λx=>(pl<|evalL G F x).getD undef) o:=ct o hsel λx hx=>by
    have h1:=B7.1 hpl x A8
    obtain ⟨z,hz⟩:=VH.1 h1;rw [hz];exact pl_R hz (hF.eval hW.glob x).1
   refine post_value hW hF (v:=y) ?_ ?_ ?_
   ·rw [hcong];exact genV_run hy w
   ·rw [<-h]
    split
    ·exact kn_R y
    ·exact Cl
   ·rw [<-h]
    split
    ·exact kn_ok y
    ·trivial
  ·cases h
 ·cases h
def pickL_sound {c x y lv:LV}{vc vx vy:aV}{n:aC}(h:(pickL c x y).all λz=>z=lv) (hc:R β Z w c vc) (hx:R β Z w x vx) (hy:R β Z w y vy) (kx:okV n x) (ky:okV n y):
  ∃g,vc=.bool g/\R β Z w lv (if g then vx else vy)/\okV n lv:=by
 unfold pickL at h;split at h
 ·simp only [T.all] at h;subst h;exact ⟨U,hc,hx,kx⟩
 ·simp only [T.all] at h;subst h;exact ⟨X,hc,hy,ky⟩
 ·rename_i g
  refine ⟨g,hc,?_⟩
  have hx':=norm_R hx
  have hy':=norm_R hy
  split at h
  ·rename_i h1 h2
   split at h
   ·rename_i hk;simp only [T.all] at h;subst h hk;rw [h1] at hx';rw [h2] at hy';simp only [R] at hx' hy'|-;subst hx' hy';exact ⟨A8,ak⟩
   ·cases h
  ·rename_i h1 h2
   simp only [T.all] at h;subst h;rw [h1] at hx';rw [h2] at hy';simp only [R] at hx' hy'|-;subst hx' hy';exact ⟨A8,ak⟩
  ·simp only [T.all] at h
   cases g with
   |true=>have:=h.1 rfl;subst this;exact ⟨hx,kx⟩
   |false=>have:=h.2 rfl;subst this;exact ⟨hy,ky⟩
 ·cases h
def fldL_sound {t:aS}{l:aD}{lv:LV}{ys:aW}{i n:aC}(h:(fldL P t l i).all λz=>z=lv) (hr:RL β Z w l ys.toList) (hk:okL n l):
  ∃z,(∀w',(Instr.field t (.agg ys) i).run P w'=.ok z w')/\R β Z w lv z/\okV n lv:=by
 unfold fldL at h;split at h
 ·rename_i fs hu
  split at h
  ·rename_i f hf
   split at h
   ·rename_i m ha hs
    split at h
    ·simp only [T.all] at h
     subst h;refine ⟨.agg<|ys.extract f.offset<|f.offset+m,λw'=>?_,mkAgg_R ?_,mkAgg_ok<|hk.take_drop _ _⟩
     ·simp [Instr.field,Bw hu,hf,asAgg,part,run_isAgg ha,run_sizeOf hs]
     ·have:=hr.take_drop f.offset m
      simp_all
    ·cases h
   ·rename_i ha
    split at h
    ·rename_i y hy
     subst h;obtain ⟨z,e4,e5⟩:=RL.get _ _ hr hy
     have e6:ys[f.offset]? =ah z:=A8
     refine ⟨z,λw'=>?_,e5,okL.get _ _ hk hy⟩
     simp [Instr.field,Bw hu,hf,asAgg,part,run_isAgg ha,e6]
    ·cases h
   ·cases h
  ·cases h
 ·cases h
def fieldL_sound {s:aS}{x lv:LV}{y:aV}{i n:aC}(h:(fieldL P s x i).all λz=>z=lv) (hr:R β Z w x y) (hk:okV n x):
  ∃z,(∀w',(Instr.fieldAt s y i).run P w'=.ok z w')/\R β Z w lv z/\okV n lv:=by
 unfold fieldL at h;split at h
 ·rename_i fs hu
  split at h
  ·rename_i f hf
   split at h
   ·rename_i m hsz
    have e1:=λw=>run_sizeOf hsz w
    split at h
    ·rename_i k off
     simp only [R] at hr;refine ⟨.pointer<|ah ⟨(β k).b,off+f.offset,aj⟩,λw'=>?_,?_,?_⟩
     ·simp [Instr.fieldAt,Bw hu,hf,Instr.sureAddr,hr,fieldPlace,e1,addr_add]
     ·rw [<-h];simp only [R]
     ·rw [<-h];simpa only [okV] using hk
    ·rename_i k es i' j
     obtain ⟨hcap,hr⟩:=hr;refine ⟨.pointer<|ah ⟨(β k).b,(β k).o+i'*es+(j+f.offset),aj⟩,λw'=>?_,?_,?_⟩
     ·simp [Instr.fieldAt,Bw hu,hf,Instr.sureAddr,hr,fieldPlace,e1,addr_add,FM]
     ·rw [<-h];simp only [R];exact ⟨hcap,ak⟩
     ·rw [<-h];simpa only [okV] using hk
    ·rename_i q g
     split at h
     ·rename_i hle
      obtain ⟨b,off,h1,h2,h3⟩:=hr;refine ⟨.pointer<|ah ⟨b,off+f.offset,aj⟩,λw'=>?_,?_,?_⟩
      ·simp [Instr.fieldAt,Bw hu,hf,Instr.sureAddr,h1,fieldPlace,e1,addr_add]
      ·rw [<-h]
       refine ⟨b,off+f.offset,rfl,h2,λj hj=>?_⟩
       have:=h3 (f.offset+j) A0
       grind
      ·rw [<-h];simp only [okV] at hk|-;exact λj=>hk _
     ·cases h
    ·cases h
   ·cases h
  ·cases h
 ·cases h
def chain_sound {n:Y}{g:aC->LV}{lv:LV}:∀(m j:aC),(chain n g m j).all (λz=>z=lv)->∃i,j<=i/\i<j+m/\n=(i:Y)/\lv=g i
 |0,j,h=>Ab
 | m+1,j,h=>by
  simp only [chain,T.all] at h
  by_cases hn:n=(j:Y)
  ·grind
  ·obtain ⟨i,h1,h2,h3,h4⟩:=chain_sound m (j+1) (h.2 A8)
   grind
def aggC_sound {x:LV}{y:aV}{l:aD}{n:aC}(h:aggC x=ah l) (hr:R β Z w x y) (hk:okV n x):∃ys:aW,y=.agg ys/\RL β Z w l ys.toList/\okL n l:=by
 unfold aggC at h;split at h
 ·obtain rfl:=DE h
  obtain ⟨ys,e1,e2⟩:=hr;exact ⟨ys,e1,e2,hk⟩
 ·rename_i ys
  obtain rfl:=DE h;exact ⟨ys,hr,RL_v _,okL_v _ _⟩
 ·cases h
def idxL_sound {t:aS}{l:aD}{q lv:LV}{ys:aW}{z:aV}{n:aC}(h:(idxL P t l q).all λr=>r=lv) (hr:RL β Z w l ys.toList) (hk:okL n l) (hq:R β Z w q z):
  ∃v,(∀w',(Instr.index t (.agg ys) z).run P w'=.ok v w')/\R β Z w lv v/\okV n lv:=by
 unfold idxL at h;split at h
 ·rename_i len e k j hu
  split at h
  ·rename_i y ha hs hy
   split at h
   ·rename_i hb
    subst h;simp only [R] at hq;obtain ⟨v,e4,e5⟩:=RL.get _ _ hr hy
    have e6:ys[j.toNat]? =ah v:=A8
    refine ⟨v,λw'=>?_,e5,okL.get _ _ hk hy⟩
    simp [Instr.index,hq,asIntOf,Bw hu,hb.1,hb.2,part,run_isAgg ha,run_sizeOf hs,e6]
   ·cases h
  ·cases h
 ·cases h
def indexL_sound {t:aS} {x q lv:LV} {y z:aV} {c:aL} {N:aC} (h:(indexL P t x c q).all λr=>r=lv) (hr:R β Z w x y) (hq:R β Z w q z) (hk:okV N x):
  ∃v,(∀w',(Instr.indexAt t y z).run P w'=.ok v w')/\R β Z w lv v/\okV N lv:=by
 unfold indexL at h;simp only [addN_eq] at h;split at h
 ·rename_i kd n hpl
  have hz:=pl_R hpl hq
  split at h
  ·rename_i len e hu
   split at h
   ·rename_i m hsz
    have e1:=λw=>run_sizeOf hsz w
    have fin:∀(b off i:aC),i<len->n=(i:Y)->y=.pointer (ah ⟨b,off,aj⟩)->∀w',(Instr.indexAt t y z).run P w'=.ok (.pointer<|ah ⟨b,off+i*(m+1),aj⟩) w':=λb off i hi hn hy w'=>by
     have h0:(0:Y)<=n:=A0
     have h1:n<(len:Y):=A0
     have h2:n.toNat=i:=A0
     simp [Instr.indexAt,hz,asIntOf,Bw hu,hy,Instr.sureAddr,h0,h1,e1,addr_add,h2]
    have own:∀(k off i:aC),i<len->n=(i:Y)->R β Z w (.own k off) y->okV N (.own k off)->lv=.own k (off+i*(m+1))->∃v,(∀w',(Instr.indexAt t y z).run P w'=.ok v w')/\R β Z w lv v/\okV N lv:=λk off i hi hn hr hk hl=>by
     simp only [R] at hr;refine ⟨_,fin _ _ i hi hn hr,?_,?_⟩
     ·rw [hl];simp only [R]
     ·exact rK
    have opp:∀(k es i' j i:aC),i<len->n=(i:Y)->R β Z w (.op k es i' j) y->okV N (.op k es i' j)->lv=.op k es i' (j+i*(m+1))->∃v,(∀w',(Instr.indexAt t y z).run P w'=.ok v w')/\R β Z w lv v/\okV N lv:=λk es i' j i hi hn hr hk hl=>by
     simp only [R] at hr;refine ⟨_,fin _ _ i hi hn hr.2,?_,?_⟩
     ·rw [hl];simp only [R,FM];exact ⟨hr.1,ak⟩
     ·exact rK
    have ext:∀(q:aC) (g:aC->LV) (i:aC),i<len->len*(m+1)<=q->n=(i:Y)->R β Z w (.xq q g) y->okV N (.xq q g)->lv=.xq (m+1) (λj=>g<|i*(m+1)+j)->∃v,(∀w',(Instr.indexAt t y z).run P w'=.ok v w')/\R β Z w lv v/\okV N lv:=λq g i hi hle hn hr hk hl=>by
     simp only [R] at hr;obtain ⟨b,off,h1,h2,h3⟩:=hr;refine ⟨_,fin _ _ i hi hn h1,?_,?_⟩
     ·rw [hl]
      simp only [R];refine ⟨b,_,rfl,h2,λj hj=>?_⟩
      have hm:i*(m+1)+(m+1)<=len*(m+1):=by
       have:=K5 (m+1) (show i+1<=len by omega)
       rwa [E6,OE] at this
      have:=h3 (i*(m+1)+j) A0
      rwa [<-FM] at this
     ·rw [hl];simp only [okV] at hk|-;exact λj=>hk _
    split at h
    ·rename_i k es i' j
     split at h
     ·split at h
      ·rename_i hb
       simp only [T.all] at h;exact opp k es i' j n.toNat A0 A0 hr hk h.symm
      ·cases h
     ·obtain ⟨i,_,h2,h3,h4⟩:=chain_sound _ _ h
      exact opp k es i' j i A0 h3 hr hk h4
    ·rename_i k off
     split at h
     ·split at h
      ·rename_i hb
       simp only [T.all] at h;exact own k off n.toNat A0 A0 hr hk h.symm
      ·cases h
     ·obtain ⟨i,_,h2,h3,h4⟩:=chain_sound _ _ h
      exact own k off i A0 h3 hr hk h4
    ·rename_i q g
     split at h
     ·rename_i hle
      split at h
      ·split at h
       ·rename_i hb
        simp only [T.all] at h;exact aJU
       ·cases h
      ·split at h
       ·obtain ⟨i,_,h2,h3,h4⟩:=chain_sound _ _ h
        exact ext q g i A0 hle h3 hr hk h4
       ·simp only [T.all] at h
        obtain ⟨⟨b1,b2⟩,h⟩:=h;exact aJU
     ·cases h
    ·cases h
   ·cases h
  ·rename_i e hu
   split at h
   ·rename_i m e' l hsz
    split at h
    ·rename_i hes
     simp only [T.all] at h;obtain ⟨⟨h0,h1⟩,h2⟩:=h;simp only [R] at hr;obtain ⟨ad,cap,g1,gc,g2⟩:=hr;obtain ⟨b,off,g3,g4,g5⟩:=g2 A0
     have e1:=λw=>run_sizeOf hsz w
     have hlt:n.toNat<M l:=A0
     have hgx:l[n.toNat]? =ah (gx l n):=A8
     have g6:=g5 n.toNat _ hgx
     refine ⟨.pointer<|ah ⟨b,off+n.toNat*(m+1),aj⟩,λw'=>?_,?_,?_⟩
     ·simp [Instr.indexAt,hz,asIntOf,Bw hu,g1,g3,h0,h1,e1,addr_add]
     ·rw [<-h2]
      simp only [R];refine ⟨b,_,rfl,g4,λj hj=>?_⟩
      rw [hes] at g6
      have hjl:j<M (encL e'<|gx l n):=sH
      exact encL_R e' _ b _ g6 j _<|getD_lt hjl
     ·rw [<-h2]
      simp only [okV];exact λj=>getD_ok (encL_ok 0 e' _) j
    ·cases h
   ·rename_i m k es off len hsz
    split at h
    ·rename_i hes
     simp only [T.all] at h;obtain ⟨⟨h0,h1⟩,h2⟩:=h
     have e1:=λw=>run_sizeOf hsz w
     simp only [R] at hr;split at hr
     ·obtain ⟨rfl,_,_⟩:=hr
      exact absurd h1 CN
     ·rename_i c hcap
      obtain ⟨g1,ad,g2,g3⟩:=hr
      have g3:=g3 A0
      refine ⟨.pointer<|ah ⟨(β k).b,(β k).o+(off+n.toNat)*es+0,aj⟩,λw'=>?_,?_,?_⟩
      ·simp [Instr.indexAt,hz,asIntOf,Bw hu,g2,g3,h0,h1,e1,addr_add,hes,E6,FM]
      ·rw [<-h2];simp only [R];exact ⟨by rw [hcap];simp,ak⟩
      ·rw [<-h2];simpa only [okV] using hk
    ·cases h
   ·rename_i m k es off len cp hsz
    split at h
    ·rename_i hes
     have e1:=λw=>run_sizeOf hsz w
     have own:∀(i:aC),i<len->n=(i:Y)->lv=.own k ((off+i)*(m+1))->∃v,(∀w',(Instr.indexAt t y z).run P w'=.ok v w')/\R β Z w lv v/\okV N lv:=λi hi hn hl=>by
      simp only [R] at hr;obtain ⟨g1,ad,g2,g3⟩:=hr
      have g3:=g3 A0
      have h0:(0:Y)<=n:=A0
      have h1:n<(len:Y):=A0
      have h2:n.toNat=i:=A0
      refine ⟨.pointer<|ah ⟨(β k).b,(off+i)*(m+1),aj⟩,λw'=>?_,?_,?_⟩
      ·simp [Instr.indexAt,hz,asIntOf,Bw hu,g2,g3,h0,h1,e1,addr_add,hes,E6,h2]
      ·rw [hl];simp only [R]
      ·exact rK
     split at h
     ·split at h
      ·rename_i hb
       simp only [T.all] at h;exact own n.toNat A0 A0 h.symm
      ·cases h
     ·obtain ⟨i,_,h2,h3,h4⟩:=chain_sound _ _ h
      exact own i A0 h3 h4
    ·cases h
   ·cases h
  ·cases h
 ·cases h
def fold_set (off:aC):∀(l:aT) (s:aC) (zs:aW) (i:aC),off+s+M l<=zs.size->
  ((l.zipIdx s).foldl (λ(cs:aW) p=>cs.setIfInBounds (off+p.2) p.1) zs).size=zs.size/\
  ((l.zipIdx s).foldl (λ(cs:aW) p=>cs.setIfInBounds (off+p.2) p.1) zs)[i]? =if off+s<=i/\i<off+s+M l then l[i-(off+s)]? else zs[i]?
 | [],s,zs,i,_=>by simp;intro h1 h2;omega
 | x::xs,s,zs,i,h=>by
  simp only [List.zipIdx_cons,IJ];obtain ⟨h1,h2⟩:=fold_set off xs (s+1) (zs.setIfInBounds (off+s) x) i A8;refine ⟨A8,?_⟩;rw [h2];simp only [BB] at h|-
  by_cases hi:i=off+s
  ·subst hi
   rw [AE A0,AD A0,Array.getElem?_setIfInBounds,AD rfl,AD A0]
   simp
  ·by_cases hr:off+(s+1)<=i/\i<off+(s+1)+M xs
   ·rw [AD hr,AD A0]
    grind
   ·rw [AE hr,AE A0]
    grind
def fold_setAt (off:aC) (vs zs:aW) (h:off+vs.size<=zs.size):
  (vs.zipIdx.foldl (λ(cs:aW) (p:Value×Nat)=>cs.setIfInBounds (off+p.2) p.1) zs).toList=zs.toList.take off++vs.toList++zs.toList.drop (off+M vs.toList):=by
 have e:vs.zipIdx.foldl (λ(cs:aW) (p:Value×Nat)=>cs.setIfInBounds (off+p.2) p.1) zs=(vs.toList.zipIdx 0).foldl (λ(cs:aW) p=>cs.setIfInBounds (off+p.2) p.1) zs:=by
  rw [<-Array.foldl_toList];simp
 rw [e]
 apply List.ext_getElem?
 intro i
 have:=(fold_set off vs.toList 0 zs i A8).2
 rw [Array.getElem?_toList,this];simp only [VM,pw]
 by_cases h1:i<off
 ·grind
 ·by_cases h2:i<off+vs.size
  ·rw [AD A0,DQ,EK A8,FI A8]
   grind
  ·rw [AE A0,EK A8,DX]
   simp
   congr 1
   omega
def fillL_sound {place:aC->aMk}{n:aC}:∀(pl:bq) (pv:List<|Nat×Value) (cells cs:aD) (zs:aW),fillL place cells pl=ah cs->pv.map (·.1)=pl.map (·.1)->
  RL β Z w (pl.map (·.2)) (pv.map (·.2))->okL n (pl.map (·.2))->RL β Z w cells zs.toList->okL n cells->∃zs',Instr.fill place zs pv=ah zs'/\RL β Z w cs zs'.toList/\okL n cs
 | [],pv,cells,cs,zs,h,hp,hr,_,hc,hok=>by
  simp only [fillL,Ac] at h;subst h
  have:pv=[]:=EN
  subst this;exact ⟨zs,rfl,hc,hok⟩
 | (i,x)::rest,pv,cells,cs,zs,h,hp,hr,hk,hc,hok=>by
  cases pv with
  |nil=>simp at hp
  | cons q qs=>
   obtain ⟨i',v⟩:=q;simp only [D2,FL] at hp;obtain ⟨rfl,hp'⟩:=hp;obtain ⟨y,ys,e1,e2,e3⟩:=hr;obtain ⟨rfl,rfl⟩:=e1;simp only [fillL] at h;split at h
   ·rename_i off size c hpl hcl
    split at h
    ·rename_i hle
     obtain ⟨c1,c2⟩:=cellsL_R hcl e2
     have c3:=cellsL_ok hcl hk.1
     have l1:=RL.length c1
     have l2:=RL.length hc
     have hle2:off+v.cells.size<=zs.size:=A8
     have hset:=fold_setAt off v.cells zs hle2
     have hrl:=RL.setAt hc c1 off
     rw [<-hset] at hrl;obtain ⟨zs',f1,f2,f3⟩:=fillL_sound rest qs _ cs _ h hp' e3 hk.2 hrl<|okL.setAt hok c3 off;refine ⟨zs',?_,f2,f3⟩;simp only [Instr.fill,hpl]
     grind
    ·cases h
   ·cases h
def buildL_sound {t:aS}{pl:bq}{pv:aMd}{lv:LV}{n:aC}(h:(buildL P t pl).all λz=>z=lv) (hp:pv.toList.map (·.1)=pl.map (·.1)) (hr:RL β Z w (pl.map (·.2))<|pv.toList.map (·.2)) (hk:okL n<|pl.map (·.2)):
  ∃v,(∀w',(Instr.build t pv).run P w'=.ok v w')/\R β Z w lv v/\okV n lv:=by
 unfold buildL at h;split at h
 ·rename_i z pf hz hpf
  split at h
  ·rename_i cs hcs
   obtain ⟨zs',f1,f2,f3⟩:=fillL_sound (β:=β) (Z:=Z) (w:=w) (n:=n) pl pv.toList _ cs z.cells hcs hp hr hk (RL_v _)<|okL_v _ _;refine ⟨.agg zs',λw'=>run_build w' t pv zs' ?_,?_,?_⟩
   ·unfold zeroT at hz
    unfold placeT at hpf;unfold Program.built;cases hi:P.info? t with
    |none=>simp [hi] at hz
    | some it=>
     simp only [hi,LZ] at hz;split at hpf
     ·rename_i fields hu
      cases hm:fields.toList.mapM (λf=>(P.info? f.type).map λi=>(f.offset,i.size)) with
      |none=>simp [hm] at hpf
      |some ps=>
       simp only [hm,Gx,Ac] at hpf;simp only [hu,hz,hm];rw [<-hpf] at f1;exact f1
     ·rename_i e hu
      cases hm:P.info? e with
      |none=>simp [hm] at hpf
      |some ie=>
       simp only [hm,Gx,Ac] at hpf;simp only [hu,hz,hm];rw [<-hpf] at f1;exact f1
     ·cases hpf
   ·rw [<-h]
    split
    ·simp only [R];exact ⟨zs',rfl,f2⟩
    ·exact mkAgg_R f2
   ·rw [<-h]
    split
    ·exact f3
    ·exact mkAgg_ok f3
  ·cases h
 ·cases h
def evalN_R {x:aL2}{y:aV}{n:aC}(h:R β Z w (evalL G F x) y/\okV n (evalL G F x)):R β Z w (evalN G F x) y/\okV n (evalN G F x):=by
 cases x with
 |const v=>exact ⟨norm_R h.1,norm_ok h.2⟩
 |tmp t=>exact h
 |global g=>exact h
 |func f=>exact h
def decN_R (e:Ty):∀(n:aC) (cs:aD) (l:List e.D) (ys:aT),decN e n cs=ah l->RL β Z w cs ys->M l=n/\∀(Z':aC->Prop) (w':aO) (b o:aC),(∀b,Z b->Z' b)->(∀b,Z b->w'.heap[b]? =w.heap[b]?)->(∀(j:aC) v,ys[j]? =ah v->w'.cell? ⟨b,o+j,aj⟩=ah v)->∀(i:aC) (d:e.D),l[i]? =ah d->RD Z' w' e d b (o+i*e.n)
 |0,cs,l,ys,h,hr=>by
  simp only [decN,Ac] at h
  grind
 | n +1,cs,l,ys,h,hr=>by
  simp only [decN] at h;split at h
  ·rename_i d r hd hr'
   simp only [Ac] at h;subst h
   have h1:RL β Z w (cs.take e.n) (ys.take e.n):=by simpa using hr.take_drop 0 e.n
   have h2:RL β Z w (cs.drop e.n) (ys.drop e.n):=by
    refine RL.of_get (by simp [RL.length hr]) λi z hz=>?_
    rw [DX] at hz|-;exact RL.get _ _ hr hz
   obtain ⟨k1,k2⟩:=decN_R e n _ r _ hr' h2;refine ⟨A8,λZ' w' b o hZ hw hc i d' hd'=>?_⟩
   cases i with
   |zero=>
    simp at hd'
    subst hd';rw [cr,VM];refine decL_R hZ hw e _ d _ hd h1 b o λj v hv=>?_
    rw [IP] at hv;split at hv
    ·grind
    ·cases hv
   | succ i=>
    have:=k2 Z' w' b (o+e.n) hZ hw (λj v hv=>by
     rw [DX] at hv
     have:=hc (e.n+j) v hv
     rwa [<-FM] at this) i d' hd'
    grind
  ·cases h
def litL_sound {t:aS}{len:aC}{pl:bq}{pv:aMd}{lv:LV}{n:aC}(h:(litL P t len pl).all λz=>z=lv) (hp:pv.toList.map (·.1)=pl.map (·.1)) (hr:RL β Z w (pl.map (·.2))<|pv.toList.map (·.2)) (hk:okL n<|pl.map (·.2)):
  ∃elem cells,(∀w',(Instr.buildSlice t len pv).run P w'=.ok (.slice (ah ⟨w'.heap.size,0,aj⟩) len len) (w'.alloc<|.cells cells elem))/\
   (∀(β':aC->aL1) (Z':aC->Prop) (w':aO) (b:aC),(∀b,Z b->Z' b)->(∀b,Z b->w'.heap[b]? =w.heap[b]?)->(∀(j:aC) v,cells.toList[j]? =ah v->w'.cell? ⟨b,0+j,aj⟩=ah v)->Z' b->R β' Z' w' lv (.slice (ah ⟨b,0,aj⟩) len len))/\okV n lv:=by
 unfold litL at h;split at h
 ·rename_i e hu
  split at h
  ·rename_i ty m z hty hsz hz
   split at h
   ·rename_i hcond
    split at h
    ·rename_i cs hcs
     split at h
     ·rename_i l hl
      have hz0:RL β Z w ((au<|len*m).map λi=>LV.v<|z.cells[i%z.cells.size]!) ((Array.range<|len*m).map λi=>z.cells[i%z.cells.size]!).toList:=by
       exact qi
      have hok0:okL n ((au<|len*m).map λi=>LV.v<|z.cells[i%z.cells.size]!):=by
       exact aJ0
      obtain ⟨zs',f1,f2,f3⟩:=fillL_sound (β:=β) (Z:=Z) (w:=w) (n:=n) pl pv.toList _ cs _ hcs hp hr hk hz0 hok0;obtain ⟨k1,k2⟩:=decN_R ty len cs l _ hl f2;refine ⟨e,zs',λw'=>?_,λβ' Z' w' b hZ hw hc hzb=>?_,by rw [<-h];trivial⟩
      ·exact qT
      ·rw [<-h]
       refine ⟨_,len,by rw [k1],A0,λ_=>⟨b,0,rfl,hzb,λi d hd=>?_⟩⟩
       exact k2 Z' w' b 0 hZ hw hc i d hd
     ·cases h
    ·cases h
   ·cases h
  ·cases h
 ·cases h
def fillL_len {place:aC->aMk}:∀ {pl:bq}{cells cs:aD},fillL place cells pl=ah cs->M cs=M cells
 | [],cells,cs,h=>by
  simp only [fillL,Ac] at h;rw [h]
 | (i,x)::rest,cells,cs,h=>by
  simp only [fillL] at h;split at h
  ·split at h
   ·rename_i off size c _ _ hcond
    rw [fillL_len h];simp only [setAt,Av,IN,DV];omega
   ·cases h
  ·cases h
def litL_raw {t e:aS}{ty:Ty}{l:List ty.D}{len:aC}{pl:bq}{pv:aMd}{n:aC}(hu:P.underlying t=ah (.slice e)) (h:(litL P t len pl).all λz=>z=.xl ty l) (hp:pv.toList.map (·.1)=pl.map (·.1)) (hr:RL β Z w (pl.map (·.2))<|pv.toList.map (·.2)) (hk:okL n<|pl.map (·.2)):
  ∃cells:aW,(∀w',(Instr.buildSlice t len pv).run P w'=.ok (.slice (ah ⟨w'.heap.size,0,aj⟩) len len) (w'.alloc<|.cells cells e))/\M l=len/\cells.size=len*ty.n/\
   (∀(w':aO) (b:aC),(∀b,Z b->w'.heap[b]? =w.heap[b]?)->(∀(j:aC) v,cells.toList[j]? =ah v->w'.cell? ⟨b,0+j,aj⟩=ah v)->∀(i:aC) (d:ty.D),l[i]? =ah d->RD Z w' ty d b (0+i*ty.n)):=by
 unfold litL at h;rw [hu] at h;simp only at h;split at h
 ·rename_i ty0 m z hty hsz hz
  split at h
  ·rename_i hcond
   split at h
   ·rename_i cs hcs
    split at h
    ·rename_i l0 hl
     simp only [T.all,LV.xl.injEq] at h;obtain ⟨rfl,h⟩:=h;obtain rfl:=eq_of_heq h
     have hz0:RL β Z w ((au<|len*m).map λi=>LV.v<|z.cells[i%z.cells.size]!) ((Array.range<|len*m).map λi=>z.cells[i%z.cells.size]!).toList:=by
      exact qi
     have hok0:okL n ((au<|len*m).map λi=>LV.v<|z.cells[i%z.cells.size]!):=by
      exact aJ0
     obtain ⟨zs',f1,f2,f3⟩:=fillL_sound (β:=β) (Z:=Z) (w:=w) (n:=n) pl pv.toList _ cs _ hcs hp hr hk hz0 hok0;obtain ⟨k1,k2⟩:=decN_R ty0 len cs l0 _ hl f2
     have hcl:=fillL_len hcs
     have hsz2:zs'.size=len*m:=by
      have:=RL.length f2
      grind
     refine ⟨zs',λw'=>?_,k1,A8,λw' b hw hc i d hd=>k2 Z w' b 0 (λ_ h=>h) hw hc i d hd⟩
     exact qT
    ·cases h
   ·cases h
  ·cases h
 ·cases h
def litV_sound {t:aS}{len:aC}{vs:bq}{pv:aMd}{lv:LV}{H':aE}(hW:RW G w0 Z0 Z β H w) (h:(litV P H t len vs).all λq=>q=(lv,H')) (hp:pv.toList.map (·.1)=vs.map (·.1))
  (hargs:RL β Z w (vs.map (·.2))<|pv.toList.map (·.2)) (hoka:okL (M H)<|vs.map (·.2)):
  ∃w' v Z' β',(Instr.buildSlice t len pv).run P w=.ok v w'/\Below w.heap.size w w'/\(∀b,Z b->Z' b)/\(∀k,k<M H->β' k=β k)/\RW G w0 Z0 Z' β' H' w'/\R β' Z' w' lv v/\okV (M H') lv/\M H'=M H+1/\(β'<|M H).b=w.heap.size:=by
 unfold litV at h;split at h
 ·rename_i hcl
  obtain ⟨y,h1,h2⟩:=T.bind_all h;obtain ⟨_,hg,h1⟩:=T.bind_all h1;split at h2
  ·rename_i e ty l hu _
   obtain ⟨rfl,rfl⟩:=h2
   have hG:=T.all_mono (K':=λ_=>True) (λ_ _=>trivial) hg
   obtain ⟨c1,c2⟩:=closedB_spec hcl
   have hP:=hW.pub<|reach H 64 (ownsL<|vs.map (·.2)) []
   have hH:=λk b hb=>(hW.blk k b hb).2
   have hr0:RL β (ZP Z β H λk=>k∈reach H 64 (ownsL<|vs.map (·.2)) []) w ((vs.map (·.2)).map<|toX H 6) (pv.toList.map (·.2)):=
    RL_map (S:=λk=>k∈reach H 64 (ownsL<|vs.map (·.2)) []) hargs hoka c1 (λx y hm hs hx hr=>toX_R hW c2 6 x y (gseq_all hG x hm) hs hx hr)
   have hok0:okL 0 ((vs.map (·.2)).map<|toX H 6):=by
    exact aHl
   have emap:(vs.map λq=>(q.1,toX H 6 q.2)).map (·.2)=(vs.map (·.2)).map (toX H 6):=AH
   obtain ⟨cells,e1,e2,e3,e4⟩:=litL_raw (β:=β) (Z:=ZP Z β H λk=>k∈reach H 64 (ownsL<|vs.map (·.2)) []) (w:=w) (n:=0) (pv:=pv) hu h1 EN (by rw [emap];exact hr0) (by rw [emap];exact hok0)
   have hbw:Below w.heap.size w (w.alloc<|.cells cells e):=(Below.refl _ _).alloc (Ar _) _
   have hblk:(w.alloc<|.cells cells e).heap[w.heap.size]? =ah (.cells cells e (0,0)):=by
    exact Vj
   obtain ⟨β',b1,b2,b3⟩:=(hP.same hbw).adopt (ℓ:=⟨w.heap.size,0,ah len⟩) (nb:=⟨[],e,.vec ty l,X⟩) rfl ⟨ak,ak⟩
    (λ_=>⟨λhz=>by have:=hP.zlt _ hz;simp only at this;omega,hW.below.size,λj bj hj lj e=>by have:=hP.lt hj lj;simp only at e;omega⟩) (λβ' g1 g2=>by
     simp only [BlkR,g2];refine ⟨cells,hblk,A0,A0,λj d' hd'=>?_⟩
     exact e4 _ w.heap.size (λb hz=>below_block hbw<|hP.zlt b hz) (λj v hv=>by
      simpa using hv) j d' hd')
   simp only [pubGo_length] at b1 b2 b3;exact ⟨_,_,_,β',e1 w,hbw,λ_ h=> .inl h,b1,b3,aJj,by simp [okV,pubGo_length],by simp [pubGo_length],Qp⟩
  ·cases h2
 ·cases h
def litC_sound {t:aS}{len:aC}{pl:bq}{pv:aMd}{lv:LV}{H':aE}(hW:RW G w0 Z0 Z β H w) (h:(litC P H t len pl).all λq=>q=(lv,H')) (hp:pv.toList.map (·.1)=pl.map (·.1)) (hr:RL β Z w (pl.map (·.2))<|pv.toList.map (·.2)) (hk:okL (M H)<|pl.map (·.2)):
  ∃w' v,(Instr.buildSlice t len pv).run P w=.ok v w'/\Below w.heap.size w w'/\∃β',(∀k,k<M H->β' k=β k)/\RW G w0 Z0 Z β' H' w'/\R β' Z w' lv v/\okV (M H') lv/\M H'=M H+1/\(β'<|M H).b=w.heap.size:=by
 unfold litC at h;split at h
 ·rename_i e hu
  split at h
  ·rename_i m z hsz hz
   split at h
   ·rename_i hc
    split at h
    ·rename_i cs hcs
     obtain ⟨rfl,rfl⟩:=h
     have hz0:RL β Z w ((au<|len*m).map λi=>LV.v<|z.cells[i%z.cells.size]!) ((Array.range<|len*m).map λi=>z.cells[i%z.cells.size]!).toList:=by
      exact qi
     have hok0:okL (M H) ((au<|len*m).map λi=>LV.v<|z.cells[i%z.cells.size]!):=by
      have:=okL_v (M H)<|(au<|len*m).map λi=>z.cells[i%z.cells.size]!
      simpa [Ek,VL] using this
     obtain ⟨zs',f1,f2,f3⟩:=fillL_sound (β:=β) (Z:=Z) (w:=w) (n:=M H) pl pv.toList _ cs _ hcs hp hr hk hz0 hok0;obtain ⟨β',b1,b2,b3,b4⟩:=hW.alloc (t:=e) f2 f3
     have hbw:Below w.heap.size w (w.alloc<|.cells zs' e):=(Below.refl _ _).alloc (Ar _) _
     refine ⟨w.alloc<|.cells zs' e,.slice (ah ⟨w.heap.size,0,aj⟩) len len,?_,hbw,β',b1,b3,?_,IU,AH,b2⟩
     ·exact qT
     ·simp only [R,b2]
      grind
    ·cases h
   ·cases h
  ·cases h
 ·cases h
def callG_fn {o:aU}{g:bg}{l:aD}{lv:LV}{H':aE}(h:(callG P Γ H o g l).all λq=>q=(lv,H')):∃fn S,P.funcs[g]? =ah fn/\¬fn.body=aj/\¬fn.name= "runtime.NumGoroutine"/\Γ g=ah S/\
  (if noOwnL l then (S l).bind λy=>(T.ok (y,H):T<|LV×List Blk)
      else if plainTy P 8 o.type then ((gseq (guardX H 6) l).bind λ_=>onlyPl<|S<|l.map<|toX H 6).bind λy=> .ok (y,H)
      else if closedB H (reach H 64 (ownsL l) []) l then ((gseq (guardX H 6) l).bind λ_=>S<|l.map<|toX H 6).bind λy=> .ok (y,pubGo (reach H 64 (ownsL l) []) 0 H) else .no).all (λq=>q=(lv,H')):=by
 unfold callG at h;split at h
 ·rename_i fn hfn
  split at h
  ·rename_i hb
   split at h
   ·rename_i S hS
    grind
   ·cases h
  ·cases h
 ·cases h
def call_core {o:aU}{lv:LV}(hΓ:∀g S,Γ g=ah S->Valid P G g S) (hW:RW G w0 Z0 Z β H w) (hF:RF ds β Z w (M H) F a) {g:bg}{vals:aW}(hrun:(execOp a.eval o).run P w=.ok (.enter g vals) w)
  {H':aE} {l:aD} (hargs:RL β Z w l vals.toList) (hoka:okL (M H) l) (h:(callG P Γ H o g l).all λq=>q=(lv,H')):
  actUpon P (Post ds G w0 Z0 F a β H w o lv H') ((execOp a.eval o).run P w):=by
 obtain ⟨fn,S,_,_,_,hS,h⟩:=callG_fn h;rw [hrun]
 have hval:=hΓ g S hS
 have hH:=λk b hb=>(hW.blk k b hb).2
 split at h
 ·rename_i hno
  obtain ⟨y,h1,h2⟩:=T.bind_all h;simp only [T.all,Ai] at h2;obtain ⟨rfl,rfl⟩:=h2
  have hok0:=noOwnL_ok _ hno hoka
  have hr0:RL β0 Z w l (vals).toList:=RL.mono (n:=0) (λ_ hk=>absurd hk A0) (λ_ h=>h) (λ_ _=>rfl) _ _ hok0 hargs
  refine (hval _ _ w Z y hW.zlt hW.glob hok0 hr0 h1).mono λe w' ⟨hbw,v,he,hk,hr⟩=>⟨v,he,?_⟩
  refine ⟨_,β,hW.call hbw,hF.mono (Ar _) (λ_ _=>rfl) (λ_ h=> .inl h) λb hz=>below_block hbw<|hW.zlt b hz,?_,okV.mono (K6 _) _ hk,Ar _,λ_ _=>rfl,λk h1 h2=>A0,near_of_below hbw⟩
  exact aIZ
 ·have hok0:=okL_map hoka (λx hx=>toX_ok H hH 6 x hx)
  split at h
  ·obtain ⟨y,h1,h2⟩:=T.bind_all h
   simp only [T.all,Ai] at h2;obtain ⟨rfl,rfl⟩:=h2;obtain ⟨_,hg,h1⟩:=T.bind_all h1
   have hG:=T.all_mono (K':=λ_=>True) (λ_ _=>trivial) hg
   obtain ⟨h1,h2⟩:=onlyPl_all h1
   have hr0:RL β0 (ZP Z β H λ_=>True) w (l.map<|toX H 6) (vals).toList:=
    RL.mono (n:=0) (λ_ hk=>absurd hk A0) (λ_ h=>h) (λ_ _=>rfl) _ _ hok0 (RL_map (S:=λ_=>True) hargs hoka (λ_ _=>trivial) λx y hm hs hx hr=>toX_R hW (λ_ _ _ _ _ _=>trivial) 6 x y (gseq_all hG x hm) hs hx hr)
   have hzo:∀b,ZP Z β H (λ_=>True) b->b<w.heap.size:=λb hz=>by
    exact aIe
   refine (hval _ _ w _ y hzo (hW.glob.mono (λ_ h=> .inl h) λ_ _=>rfl) hok0 hr0 h1).mono λe w' ⟨hbw,v,he,hk,hr⟩=>⟨v,he,?_⟩
   refine ⟨Z,β,hW.same hbw,hF.mono (Ar _) (λ_ _=>rfl) (λ_ h=>h) λb hz=>below_block hbw<|hW.zlt b hz,?_,okV.mono (K6 _) _ hk,Ar _,λ_ _=>rfl,λk h1 h2=>A0,near_of_below hbw⟩
   obtain ⟨x,hx⟩:=VH.1 h2;rw [pl_R hx hr];exact R_pl hx
  ·split at h
   ·rename_i hcl
    obtain ⟨y,h1,h2⟩:=T.bind_all h;simp only [T.all,Ai] at h2;obtain ⟨rfl,rfl⟩:=h2;obtain ⟨_,hg,h1⟩:=T.bind_all h1
    have hG:=T.all_mono (K':=λ_=>True) (λ_ _=>trivial) hg
    obtain ⟨c1,c2⟩:=closedB_spec hcl
    have hP:=hW.pub<|reach H 64 (ownsL l) []
    have hr0:RL β0 (ZP Z β H λk=>k∈reach H 64 (ownsL l) []) w (l.map<|toX H 6) (vals).toList:=
     RL.mono (n:=0) (λ_ hk=>absurd hk A0) (λ_ h=>h) (λ_ _=>rfl) _ _ hok0 (RL_map (S:=λk=>k∈reach H 64 (ownsL l) []) hargs hoka c1 λx y hm hs hx hr=>toX_R hW c2 6 x y (gseq_all hG x hm) hs hx hr)
    refine (hval _ _ w _ y hP.zlt hP.glob hok0 hr0 h1).mono λe w' ⟨hbw,v,he,hk,hr⟩=>⟨v,he,?_⟩
    refine ⟨_,β,hP.call hbw,?_,?_,okV.mono (K6 _) _ hk,aKu,λ_ _=>rfl,λk h1 h2=>aKv,near_of_below hbw⟩
    ·exact aIl
    ·exact aIZ
   ·cases h
def value_run {f:aL2}{args:aMb}{ty:aMj}{o:aU}(ho:o.op=.call {callee:=.value f,args,argTypes:=ty}) {g:bg}{ys:aW}(hy:a.eval f=.func (.func g) #[] ys) {fn:aL8}(hfn:P.funcs[g]? =ah fn) (hb:¬fn.body=aj) (hb3:¬fn.name= "runtime.NumGoroutine") (w:aO):
  (execOp a.eval o).run P w=.ok (.enter g<|args.map a.eval++ys) w:=by
 unfold execOp;simp only [ho]
 simp [resolve,Deferred.ofValue,hy,invoke,callFunc,hfn,hb3,hb]
def value_run2 {f:aL2}{args:aMb}{ty:aMj}{o:aU}(ho:o.op=.call {callee:=.value f,args,argTypes:=ty}) {g:bg}{ys:aW}(hy:a.eval f=.func (.func g) ys #[]) {fn:aL8}(hfn:P.funcs[g]? =ah fn) (hb:¬fn.body=aj) (hb3:¬fn.name= "runtime.NumGoroutine") (w:aO):
  (execOp a.eval o).run P w=.ok (.enter g<|ys++args.map a.eval) w:=by
 unfold execOp;simp only [ho]
 simp [resolve,Deferred.ofValue,hy,invoke,callFunc,hfn,hb3,hb]
def callee2 (G:bb) (F:aD) (f:aL2) (args:aMb) (g:bg) (l:aD):Prop:=
 (∃cap,evalL G F f=.fn g cap/\l=args.toList.map (λx=>norm<|evalL G F x)++cap)\/(∃fs,evalL G F f=.fb g fs/\l=fs++args.toList.map (λx=>norm<|evalL G F x))\/(evalL G F f=.v (.func (.func g) #[] #[])/\l=args.toList.map (λx=>norm<|evalL G F x))
def callee_run {f:aL2}{args:aMb}{ty:aMj}{o:aU}(ho:o.op=.call {callee:=.value f,args,argTypes:=ty}) (hW:RW G w0 Z0 Z β H w) (hF:RF ds β Z w H.length F a) {g:bg}{l:aD}
  (hf:callee2 G F f args g l) {fn:aL8} (hfn:P.funcs[g]? =ah fn) (hb:¬fn.body=aj) (hb3:¬fn.name= "runtime.NumGoroutine"):
  ∃vals:aW,(execOp a.eval o).run P w=.ok (.enter g vals) w/\RL β Z w l vals.toList/\okL H.length l:=by
 have hfr:=hF.eval hW.glob f
 have ha:RL β Z w (args.toList.map λx=>norm<|evalL G F x) (args.map a.eval).toList:=by
  exact aII
 have hk:okL H.length (args.toList.map λx=>norm<|evalL G F x):=by
  exact aHx
 rcases hf with ⟨cap,hf,rfl⟩ |⟨fs,hf,rfl⟩ |⟨hf,rfl⟩
 ·rw [hf] at hfr
  obtain ⟨⟨ys,hy,hyr⟩,hcap⟩:=hfr;exact ⟨_,value_run ho hy hfn hb hb3 w,by rw [pz];exact RL.app ha hyr,okL.append hk hcap⟩
 ·rw [hf] at hfr
  obtain ⟨⟨ys,hy,hyr⟩,hcap⟩:=hfr;exact ⟨_,value_run2 ho hy hfn hb hb3 w,by rw [pz];exact RL.app hyr ha,okL.append hcap hk⟩
 ·rw [hf] at hfr
  have hy:=hfr.1
  exact ⟨_,value_run ho hy hfn hb hb3 w,A8,hk⟩
def call_sound {f:aL2}{args:aMb}{ty:aMj}{o:aU}{lv:LV}(ho:o.op=.call {callee:=.value f,args,argTypes:=ty}) (hΓ:∀g S,Γ g=ah S->Valid P G g S)
  (hW:RW G w0 Z0 Z β H w) (hF:RF ds β Z w (M H) F a) {g:bg} {l:aD} (hf:callee2 G F f args g l)
  {H':aE} (h:(callG P Γ H o g l).all λq=>q=(lv,H')):
  actUpon P (Post ds G w0 Z0 F a β H w o lv H') ((execOp a.eval o).run P w):=by
 obtain ⟨fn,S,h1,h2,h3,_⟩:=callG_fn h;obtain ⟨vals,q1,q2,q3⟩:=callee_run ho hW hF hf h1 h2 h3;exact call_core hΓ hW hF q1 q2 q3 h
structure KSound (P:aR) (G:bb) (K:aMf):Prop where
 k:∀(w0:aO) (Z0:Gz) (Z:aC->Prop) (β:aC->aL1) (H:aE) (w:aO) (g:bg) (args:aD) (vals:aW) (lv:LV) (H':aE),RW G w0 Z0 Z β H w->RL β Z w args vals.toList->okL (M H) args->(K.k g args H).all (λq=>q=(lv,H'))->
  Calls P g vals w λe w'=>∃v,e=.returned v/\∃Z' β',RW G w0 Z0 Z' β' H' w'/\R β' Z' w' lv v/\okV H'.length lv
 y :∀(w0:aO) (Z0:Gz) (Z:aC->Prop) (β:aC->aL1) (H:aE) (w:aO) (k:aC) (args:aD) (vals:aW) (lv:LV) (H':aE),RW G w0 Z0 Z β H w->RL β Z w args vals.toList->okL (M H) args->(K.y k args H).all (λq=>q=(lv,H'))->
  ∃r:Loop,w.heap[(β k).b]? =ah (.loop r)/\vals.size=r.params.size/\RoundIn Fence.wide 0 P (β k).b r.fn ((r.params.zip vals).foldl (λt (p,v)=>t.setIfInBounds p v) r.tmps) r.assign r.body w
   λe w'=>∃v,e=.returned v/\∃Z' β',RW G w0 Z0 Z' β' H' w'/\R β' Z' w' lv v/\okV H'.length lv
def noK_sound:KSound P G noK:=⟨λ_ _ _ _ _ _ _ _ _ _ _ _ _ _ h=>Ab,λ_ _ _ _ _ _ _ _ _ _ _ _ _ _ h=>Ab⟩
def opx_sound (hΓ:∀g S,Γ g=ah S->Valid P G g S) (hW:RW G w0 Z0 Z β H w) (hF:RF ds β Z w (M H) F a) {o:aU}{lv:LV}{H':aE}
  (h:(opx P G Γ F H o).all λq=>q=(lv,H')):actUpon P (Post ds G w0 Z0 F a β H w o lv H') ((execOp a.eval o).run P w):=by
 have hsel:∀cs b,o.op≠ .select cs b:=λcs b e=>by unfold opx at h;simp only [e] at h;cases h
 have ev:=λx=>hF.eval hW.glob x
 have same:∀ {t:T LV},(t.bind λy=>(T.ok (y,H):T<|LV×List Blk)).all (λq=>q=(lv,H'))->t.all (λz=>z=lv)/\H'=H:=λh=>by
  obtain ⟨x,h1,h2⟩:=T.bind_all h;simp only [T.all,Ai] at h2;obtain ⟨rfl,rfl⟩:=h2;exact ⟨h1,rfl⟩
 have gen:(genL P G F o).all (λz=>z=lv)->H'=H->actUpon P (Post ds G w0 Z0 F a β H w o lv H') ((execOp a.eval o).run P w):=λhg e=>by
  subst e;exact genL_sound hsel hW hF hg
 have val:∀ {v:aV},H'=H->(execOp a.eval o).run P w=.ok (.value v) w->R β Z w lv v->okV (M H) lv->actUpon P (Post ds G w0 Z0 F a β H w o lv H') ((execOp a.eval o).run P w):=λe hrun hr hk=>by
  subst e;exact post_value hW hF hrun hr hk
 unfold opx at h;split at h
 ·cases h
 ·exact aI0
 ·exact aI0
 ·rename_i c x y ho
  obtain ⟨h1,h2⟩:=same h;obtain ⟨g,e1,e2,e3⟩:=pickL_sound h1 (ev c).1 (ev x).1 (ev y).1 (ev x).2 (ev y).2;exact val h2 (v:=if g then a.eval x else a.eval y) aKZ e2 e3
 ·rename_i t ho
  split at h
  ·rename_i z hz
   split at h
   ·rename_i cs hcs
    simp only [T.all,Ai] at h;obtain ⟨h1,h2⟩:=h;obtain ⟨c1,_⟩:=cellsL_R (β:=β) (Z:=Z) (w:=w) hcs (show R β Z w (.v z) z by simp only [R])
    obtain ⟨β',b1,b2,b3,b4⟩:=hW.alloc (t:=t) c1<|cellsL_ok hcs trivial
    have hrun:(execOp a.eval o).run P w=.ok (.value<|.pointer<|ah ⟨w.heap.size,0,aj⟩) (w.alloc<|.cells z.cells t):=by
     have e:=λw=>run_zero hz w
     simp [execOp,ho,Instr.alloc,e,newVar,newRow]
    exact aHX
   ·cases h
  ·cases h
 ·rename_i t x ho
  split at h
  ·rename_i cs hcs
   simp only [T.all,Ai] at h;obtain ⟨h1,h2⟩:=h;obtain ⟨c1,_⟩:=cellsL_R hcs (ev x).1;obtain ⟨β',b1,b2,b3,b4⟩:=hW.alloc (t:=t) c1<|cellsL_ok hcs (ev x).2
   have hrun:(execOp a.eval o).run P w=.ok (.value<|.pointer<|ah ⟨w.heap.size,0,aj⟩) (w.alloc<|.cells (a.eval x).cells t):=by
    simp [execOp,ho,Instr.box,newVar,newRow]
   exact aHX
  ·cases h
 ·rename_i t x ho
  obtain ⟨h1,h2⟩:=same h;obtain ⟨z,e1,e2,e3⟩:=loadL_sound hW h1 (ev x).1 (ev x).2;exact rJ
 ·rename_i t x y ho
  obtain ⟨H1,h1,h2⟩:=T.bind_all h;simp only [T.all,Ai] at h2;obtain ⟨h2,h3⟩:=h2;subst h3;obtain ⟨w',e1,e2,e3,e4,e6⟩:=storeL_sound hW h1 (ev x).1 (ev y).1 (ev y).2;exact aHZ
 ·rename_i s x i ho
  obtain ⟨h1,h2⟩:=same h;obtain ⟨z,e1,e2,e3⟩:=fieldL_sound (w:=w) h1 (ev x).1 (ev x).2;exact VZ
 ·rename_i t x i ho
  obtain ⟨h1,h2⟩:=same h;obtain ⟨z,e1,e2,e3⟩:=indexL_sound (w:=w) h1 (ev x).1 (ev i).1 (ev x).2;exact VZ
 ·rename_i t parts ho
  obtain ⟨h1,h2⟩:=same h
  obtain ⟨z,e1,e2,e3⟩:=buildL_sound (β:=β) (Z:=Z) (w:=w) (n:=M H) (pv:=parts.map λq=>(q.1,a.eval q.2)) h1 Qn (by
   simp only [Lb,Ek];refine RL.of_get AH λi x hx=>?_
   rw [CZ] at hx|-;cases hq:parts.toList[i]? with
   |none=>simp [hq] at hx
   |some q=>simp [hq] at hx;subst hx;exact ⟨a.eval q.2,AH,(evalN_R<|ev q.2).1⟩) (by
   simp only [Ek];refine okL.of_get λi x hx=>?_
   rw [CZ] at hx;cases hq:parts.toList[i]? with
   |none=>simp [hq] at hx
   |some q=>simp [hq] at hx;subst hx;exact (evalN_R<|ev q.2).2)
  exact val h2 (v:=z) Ha e2 e3
 ·rename_i t len parts ho
  split at h
  ·rename_i h0
   subst h0;split at h
   ·rename_i hpe
    have hpa:parts=#[]:=by
     have:=VU.1 hpe
     rw [<-pt (xs:=parts),this]
    obtain ⟨w',v,e1,e2,β',e3,e4,e5,e6,e7,e8⟩:=emptyL_sound hW h
    have hrun:(execOp a.eval o).run P w=.ok (.value v) w':=by simp [execOp,ho,hpa,e1]
    exact aIG
   ·cases h
  split at h
  rotate_left
  ·obtain ⟨w',v,e1,e2,β',e3,e4,e5,e6,e7,e8⟩:=litC_sound (pv:=parts.map λq=>(q.1,a.eval q.2)) hW h Qn (by
    simp only [Lb,Ek];refine RL.of_get AH λi x hx=>?_
    rw [CZ] at hx|-;cases hq:parts.toList[i]? with
    |none=>simp [hq] at hx
    |some q=>simp [hq] at hx;subst hx;exact ⟨a.eval q.2,AH,(ev q.2).1⟩) (by
    simp only [Ek];refine okL.of_get λi x hx=>?_
    rw [CZ] at hx;cases hq:parts.toList[i]? with
    |none=>simp [hq] at hx
    |some q=>simp [hq] at hx;subst hx;exact (ev q.2).2)
   have hrun:(execOp a.eval o).run P w=.ok (.value v) w':=Ha
   rw [hrun];refine ⟨Z,β',e4,hF.mono A0 e3 (λ_ h=>h) λb hz=>below_block e2<|hW.zlt b hz,e5,e6,A0,e3,λk k1 k2=>?_,near_of_below e2⟩
   have:k=M H:=A0
   rw [this,e8];exact .inl<|Ar _
  split at h
  ·obtain ⟨w',v,Z',β',e1,e2,ez,e3,e4,e5,e6,e7,e8⟩:=litV_sound (pv:=parts.map λq=>(q.1,a.eval q.2)) hW h Qn (by
    simp only [Lb,Ek];refine RL.of_get AH λi x hx=>?_
    rw [CZ] at hx|-;cases hq:parts.toList[i]? with
    |none=>simp [hq] at hx
    |some q=>simp [hq] at hx;subst hx;exact ⟨a.eval q.2,AH,(ev q.2).1⟩) (by
    simp only [Ek];refine okL.of_get λi x hx=>?_
    rw [CZ] at hx;cases hq:parts.toList[i]? with
    |none=>simp [hq] at hx
    |some q=>simp [hq] at hx;subst hx;exact (ev q.2).2)
   have hrun:(execOp a.eval o).run P w=.ok (.value v) w':=Ha
   rw [hrun];refine ⟨Z',β',e4,hF.mono A0 e3 ez λb hz=>below_block e2<|hW.zlt b hz,e5,e6,A0,e3,λk k1 k2=>?_,near_of_below e2⟩
   have:k=M H:=A0
   rw [this,e8];exact .inl<|Ar _
  split at h
  rotate_left
  ·unfold litO at h
   split at h
   ·rename_i hcl
    have hargs:RL β Z w ((parts.toList.map λq=>(q.1,evalL G F q.2)).map (·.2)) ((parts.map λq=>(q.1,a.eval q.2)).toList.map (·.2)):=by
     simp only [Lb,Ek];refine RL.of_get AH λi x hx=>?_
     rw [CZ] at hx|-;cases hq:parts.toList[i]? with
     |none=>simp [hq] at hx
     |some q=>simp [hq] at hx;subst hx;exact ⟨a.eval q.2,AH,(ev q.2).1⟩
    have hoka:okL (M H) ((parts.toList.map λq=>(q.1,evalL G F q.2)).map (·.2)):=by
     simp only [Ek];refine okL.of_get λi x hx=>?_
     rw [CZ] at hx;cases hq:parts.toList[i]? with
     |none=>simp [hq] at hx
     |some q=>simp [hq] at hx;subst hx;exact (ev q.2).2
    generalize hvs:(parts.toList.map λq=>(q.1,evalL G F q.2))=vs at h hcl hargs hoka
    obtain ⟨y,h1,h2⟩:=T.bind_all h;simp only [T.all,Ai] at h2;obtain ⟨rfl,rfl⟩:=h2;obtain ⟨_,hg,h1⟩:=T.bind_all h1
    have hG:=T.all_mono (K':=λ_=>True) (λ_ _=>trivial) hg
    obtain ⟨c1,c2⟩:=closedB_spec hcl
    have hP:=hW.pub<|reach H 64 (ownsL<|vs.map (·.2)) []
    have hH:=λk b hb=>(hW.blk k b hb).2
    have hr0:RL β (ZP Z β H λk=>k∈reach H 64 (ownsL<|vs.map (·.2)) []) w ((vs.map (·.2)).map<|toX H 6) ((parts.map λq=>(q.1,a.eval q.2)).toList.map (·.2)):=
     RL_map (S:=λk=>k∈reach H 64 (ownsL<|vs.map (·.2)) []) hargs hoka c1 (λx y hm hs hx hr=>toX_R hW c2 6 x y (gseq_all hG x hm) hs hx hr)
    have hok0:okL 0 ((vs.map (·.2)).map<|toX H 6):=by
     exact aHl
    have emap:(vs.map λq=>(q.1,toX H 6 q.2)).map (·.2)=(vs.map (·.2)).map (toX H 6):=Qn
    obtain ⟨elem,cells,e1,e2,e3⟩:=litL_sound (β:=β) (Z:=ZP Z β H λk=>k∈reach H 64 (ownsL<|vs.map (·.2)) []) (w:=w) (n:=0) (pv:=parts.map λq=>(q.1,a.eval q.2)) h1 (by rw [<-hvs];simp [VL]) (by rw [emap];exact hr0) (by rw [emap];exact hok0)
    have hrun:(execOp a.eval o).run P w=.ok (.value<|.slice (ah ⟨w.heap.size,0,aj⟩) len len) (w.alloc<|.cells cells elem):=by
     simp [execOp,ho,e1]
    have hbw:Below w.heap.size w (w.alloc<|.cells cells elem):=(Below.refl _ _).alloc (Ar _) _
    rw [hrun];refine ⟨_,β,hP.call hbw,?_,?_,okV.mono (K6 _) _ e3,aKu,λ_ _=>rfl,λk h1 h2=>aKv,near_of_below hbw⟩
    ·exact aIl
    ·exact e2 β _ _ w.heap.size (λ_ h=> .inl h) (λb hz=>below_block hbw<|hP.zlt b hz) (λj v hv=>by
      show World.cell? _ _=_
      unfold World.cell?
      have:(w.alloc<|.cells cells elem).heap[w.heap.size]? =ah (.cells cells elem (0,0)):=by
       exact Vj
      simp only [this]
      simpa using hv)<|.inr ⟨Ar _,AH⟩
   ·cases h
  ·obtain ⟨h1,h2⟩:=same h
   subst h2
   have hp:=litL_sound (β:=β) (Z:=Z) (w:=w) (n:=M H') (pv:=parts.map λq=>(q.1,a.eval q.2)) h1 Qn (by
    simp only [Lb,Ek];refine RL.of_get AH λi x hx=>?_
    rw [CZ] at hx|-;cases hq:parts.toList[i]? with
    |none=>simp [hq] at hx
    |some q=>simp [hq] at hx;subst hx;exact ⟨a.eval q.2,AH,(ev q.2).1⟩) (by
    simp only [Ek];refine okL.of_get λi x hx=>?_
    rw [CZ] at hx;cases hq:parts.toList[i]? with
    |none=>simp [hq] at hx
    |some q=>simp [hq] at hx;subst hx;exact (ev q.2).2)
   obtain ⟨elem,cells,e1,e2,e3⟩:=hp
   have hrun:(execOp a.eval o).run P w=.ok (.value<|.slice (ah ⟨w.heap.size,0,aj⟩) len len) (w.alloc<|.cells cells elem):=by
    simp [execOp,ho,e1]
   have hbw:Below w.heap.size w (w.alloc<|.cells cells elem):=(Below.refl _ _).alloc (Ar _) _
   rw [hrun];refine ⟨_,β,hW.call hbw,hF.mono (Ar _) (λ_ _=>rfl) (λ_ h=> .inl h) λb hz=>below_block hbw<|hW.zlt b hz,?_,e3,Ar _,λ_ _=>rfl,λk h1 h2=>A0,near_of_below hbw⟩
   exact e2 β _ _ w.heap.size (λ_ h=> .inl h) (λb hz=>below_block hbw<|hW.zlt b hz) (λj v hv=>by
    show World.cell? _ _=_
    unfold World.cell?
    have:(w.alloc<|.cells cells elem).heap[w.heap.size]? =ah (.cells cells elem (0,0)):=by
     exact Vj
    simp only [this]
    simpa using hv)<|.inr ⟨Ar _,AH⟩
 ·rename_i t n c ho
  obtain ⟨w',v,e1,e2,β',e3,e4,e5,e6,e7,e8⟩:=makeL_sound hW h (ev n).1 (ev c).1
  have hrun:(execOp a.eval o).run P w=.ok (.value v) w':=Ha
  exact aIG
 ·rename_i t x lo hi ho
  split at h
  ·exact K7
  ·obtain ⟨h1,h2⟩:=same h
   have ro:∀q:Option Operand,RO β Z w (q.map<|evalL G F) (q.map a.eval):=λq=>by
    cases q with
    |none=>trivial
    |some q=>exact (ev q).1
   obtain ⟨z,e1,e2,e3⟩:=sliceL_sound (w:=w) h1 (ev x).1 (ro lo) (ro hi) (ev x).2;exact VZ
 ·rename_i t x lo hi mx ho
  split at h
  ·exact K7
  ·obtain ⟨h1,h2⟩:=same h
   have ro:RO β Z w (lo.map<|evalL G F) (lo.map a.eval):=by
    cases lo with
    |none=>trivial
    |some q=>exact (ev q).1
   obtain ⟨z,e1,e2,e3⟩:=slice3L_sound (w:=w) (N:=M H) h1 (ev x).1 ro (ev hi).1 (ev mx).1;exact VZ
 ·rename_i t ho
  split at h
  ·rename_i e he
   simp only [T.all,Ai] at h;obtain ⟨h1,h2⟩:=h;obtain ⟨β',b1,b2,b3,b4⟩:=hW.newSet (e:=e) (t:=t);exact aHa
  split at h
  ·rename_i kd hkd
   simp only [T.all,Ai] at h;obtain ⟨h1,h2⟩:=h;obtain ⟨β',b1,b2,b3,b4⟩:=hW.newMap (kd:=kd) (t:=t);exact aHa
  ·cases h
 ·exact aIH
 ·exact aIH
 ·rename_i t x i ho
  obtain ⟨h1,h2⟩:=same h;obtain ⟨z,e1,e2,e3⟩:=lookL_sound hW h1 (ev x).1 (ev i).1 (ev x).2;exact rJ
 ·rename_i t x i ho
  split at h
  ·exact K7
  ·obtain ⟨h1,h2⟩:=same h
   obtain ⟨z,e1,e2,e3⟩:=lookM2_sound hW h1 (ev x).1 (ev i).1 (ev x).2;exact rJ
 ·rename_i x i ho
  split at h
  ·rename_i l hl
   split at h
   ·rename_i y hy
    simp only [T.all,Ai] at h;obtain ⟨h1,h2⟩:=h
    have hx:=ev x
    rw [hl] at hx;simp only [R,okV] at hx;obtain ⟨⟨ys,e1,e2⟩,e3⟩:=hx;obtain ⟨z,e4,e5⟩:=RL.get _ _ e2 hy
    have e6:ys[i]? =ah z:=by simpa using e4
    refine val h2.symm (v:=z) aK6 ?_ ?_<;>rw [<-h1]
    ·exact e5
    ·exact okL.get _ _ e3 hy
   ·cases h
  ·exact K7
 ·rename_i t x i ho
  split at h
  ·rename_i l hl
   obtain ⟨h1,h2⟩:=same h
   have hx:=ev x
   rw [hl] at hx;simp only [R,okV] at hx;obtain ⟨⟨ys,e1,e2⟩,e3⟩:=hx;obtain ⟨z,f1,f2,f3⟩:=fldL_sound h1 e2 e3;exact aJ9
  ·exact K7
 ·rename_i f first cap ho
  split at h
  ·rename_i he
   simp only [T.all,Ai] at h;obtain ⟨h1,h2⟩:=h
   have hfirst:first=#[]:=by
    have:first.toList=[]:=W1
    exact Mv
   refine val h2.symm (v:=.func (.func f) #[]<|cap.map a.eval) aK2 ?_ ?_<;>rw [<-h1]
   ·exact aIA
   ·exact aHv
  ·split at h
   ·rename_i he
    simp only [T.all,Ai] at h;obtain ⟨h1,h2⟩:=h
    have hcap:cap=#[]:=by
     have:cap.toList=[]:=W1
     exact Mv
    refine val h2.symm (v:=.func (.func f) (first.map a.eval) #[]) aK7 ?_ ?_<;>rw [<-h1]
    ·exact aI8
    ·exact aHt
   ·cases h
 ·rename_i x ho
  have hx:=ev x
  split at h
  ·rename_i k off hl
   exact aHm
  ·rename_i k es i j hl
   exact aHm
  ·rename_i n f hl
   simp only [T.all,Ai] at h;rw [hl] at hx
   have hx1:=hx.1
   simp only [R] at hx1;obtain ⟨b,off,e1,_⟩:=hx1;refine val h.2.symm (v:=a.eval x) Ha ?_ ?_<;>rw [<-h.1]
   ·exact hx.1
   ·exact hx.2
  ·exact aID
  ·exact aID
  ·exact K7
 ·rename_i t x y t' ho
  split at h
  ·rename_i k n k' m hx hy
   split at h
   ·rename_i hk
    subst hk;simp only [T.all,Ai] at h;obtain ⟨h0,h1,h2⟩:=h
    have e1:=pl_R hx (ev x).1
    have e2:=pl_R hy (ev y).1
    refine val h2.symm (v:=ag k<|k.wrap<|n.tdiv m) dK ?_ ?_<;>rw [<-h1]
    ·exact Cl
    ·trivial
   ·cases h
  ·cases h
 ·rename_i t x y t' ho
  split at h
  ·rename_i k n k' m hx hy
   split at h
   ·rename_i hk
    subst hk;simp only [T.all,Ai] at h;obtain ⟨h0,h1,h2⟩:=h
    have e1:=pl_R hx (ev x).1
    have e2:=pl_R hy (ev y).1
    refine val h2.symm (v:=ag k<|n.tmod m) dK ?_ ?_<;>rw [<-h1]
    ·exact Cl
    ·trivial
   ·cases h
  ·cases h
 ·rename_i t x y t' ho
  split at h
  ·exact K7
  ·split at h
   ·rename_i k n k' m hx hy
    simp only [T.all,Ai] at h;obtain ⟨h0,h1,h2⟩:=h
    have e1:=pl_R hx (ev x).1
    have e2:=pl_R hy (ev y).1
    refine val h2.symm (v:=ag k<|k.wrap<|n*2^(min m.toNat k.bits)) dO ?_ ?_<;>rw [<-h1]
    ·exact Cl
    ·trivial
   ·cases h
 ·rename_i t x y t' ho
  split at h
  ·exact K7
  ·split at h
   ·rename_i k n k' m hx hy
    simp only [T.all,Ai] at h;obtain ⟨h0,h1,h2⟩:=h
    have e1:=pl_R hx (ev x).1
    have e2:=pl_R hy (ev y).1
    refine val h2.symm (v:=ag k<|n.fdiv<|2^(min m.toNat k.bits)) dO ?_ ?_<;>rw [<-h1]
    ·exact Cl
    ·trivial
   ·cases h
 ·rename_i t x i ho
  split at h
  ·rename_i l hl
   obtain ⟨h1,h2⟩:=same h;obtain ⟨ys,e1,e2,e3⟩:=aggC_sound hl (ev x).1 (ev x).2;obtain ⟨z,f1,f2,f3⟩:=idxL_sound h1 e2 e3 (ev i).1;exact aJ9
  ·split at h
   ·rename_i s kd n hu hx hi
    simp only [T.all,Ai] at h;obtain ⟨⟨h0,hlt⟩,h1,h2⟩:=h
    have e1:=pl_R hx (ev x).1
    have e2:=pl_R hi (ev i).1
    have hb:n.toNat<s.size:=A0
    have hg:s[n.toNat]? =ah s[n.toNat]:=by simp [hb]
    refine val h2.symm (v:=ag aw<|byI s n) aJe ?_ ?_<;>rw [<-h1]
    ·exact Cl
    ·trivial
   ·cases h
 ·rename_i f args ty ho
  split at h
  ·rename_i g cap hf
   exact call_sound ho hΓ hW hF (.inl ⟨cap,hf,rfl⟩) h
  ·rename_i g fs hf
   exact call_sound ho hΓ hW hF (.inr<|.inl ⟨fs,hf,rfl⟩) h
  ·cases h
 ·cases h
 ·rename_i args ty ho
  split at h
  ·rename_i x y t tx hl ht
   cases hargs:args.toList with
   |nil=>simp [hargs] at hl
   | cons u us=>
    cases us with
    |nil=>simp [hargs] at hl
    | cons u' us=>
     cases us with
     |cons _ _=>simp [hargs] at hl
     | nil=>
      simp only [hargs,D2,IL,FL,Lf] at hl;obtain ⟨rfl,rfl⟩:=hl
      have ha:args=#[u,u']:=Mx
      have hty:ty=#[t,tx]:=aLI
      obtain ⟨w',v,e1,e2,e3,β',e4,e5,e6,e7,e8,e9⟩:=appendL_sound (ty':=o.type) hW h (ev u).1 (ev u').1
      have hrun:(execOp a.eval o).run P w=.ok (.value v) w':=by
       simp [execOp,ho,resolve,invoke,builtin,ha,hty,e1]
      rw [hrun]
      have htb:touchB G F β H o=lvB β H (owns<|evalL G F u):=aLF
      refine ⟨Z,β',e5,hF.mono A0 e4 (λ_ h=>h) e3,e6,e7,A0,e4,λk k1 k2=>?_,by rw [htb];exact e2⟩
      have:k=M H:=A0
      rw [this,htb];exact e9
  ·cases h
 ·rename_i args ty ho
  split at h
  ·rename_i x y t tx hl ht
   cases hargs:args.toList with
   |nil=>simp [hargs] at hl
   | cons u us=>
    cases us with
    |nil=>simp [hargs] at hl
    | cons u' us=>
     cases us with
     |cons _ _=>simp [hargs] at hl
     | nil=>
      simp only [hargs,D2,IL,FL,Lf] at hl;obtain ⟨rfl,rfl⟩:=hl
      have ha:args=#[u,u']:=Mx
      have hty:ty=#[t,tx]:=aLI
      obtain ⟨w',v,e1,e2,e3,e4,e5,e6,e7⟩:=copyL_sound (ty':=o.type) hW h (ev u).1 (ev u').1
      have hrun:(execOp a.eval o).run P w=.ok (.value v) w':=by
       simp [execOp,ho,resolve,invoke,builtin,ha,hty,e1]
      rw [hrun]
      have htb:touchB G F β H o=lvB β H (owns<|evalL G F u):=aLF
      refine ⟨Z,β,e2,hF.mono A0 (λ_ _=>rfl) (λ_ h=>h) e6,e3,e4,A0,λ_ _=>rfl,λk k1 k2=>?_,by rw [htb];exact e7⟩
      omega
  ·cases h
 ·rename_i args ty ho
  split at h
  ·rename_i k es off n e hl hu
   simp only [T.all,Ai] at h;obtain ⟨h1,h2⟩:=h;cases hargs:args.toList with
   |nil=>simp [hargs] at hl
   | cons x xs=>
    cases xs with
    |cons _ _=>simp [hargs] at hl
    | nil=>
     simp only [hargs,D2,IL,FL,Lf] at hl
     have hx:=(ev x).1
     rw [hl] at hx;simp only [R] at hx
     have e1:∃ad cap,a.eval x=.slice ad n cap:=by
      exact aIu
     obtain ⟨ad,cap,e1⟩:=e1
     have ha:args=#[x]:=Mx
     cases ht:ty[0]? with
     |none=>simp [ht] at hu
     |some t=>
      simp only [ht,LZ] at hu;refine val h2.symm (v:=ag J n) Qb ?_ ?_<;>rw [<-h1]
      ·exact Cl
      ·trivial
  ·rename_i e' l e hl hu
   simp only [T.all,Ai] at h;obtain ⟨h1,h2⟩:=h;cases hargs:args.toList with
   |nil=>simp [hargs] at hl
   | cons x xs=>
    cases xs with
    |cons _ _=>simp [hargs] at hl
    | nil=>
     simp only [hargs,D2,IL,FL,Lf] at hl
     have hx:=(ev x).1
     rw [hl] at hx;simp only [R] at hx;obtain ⟨ad,cap,e1,_⟩:=hx
     have ha:args=#[x]:=Mx
     cases ht:ty[0]? with
     |none=>simp [ht] at hu
     |some t=>
      simp only [ht,LZ] at hu;refine val h2.symm (v:=ag J (M l:Y)) Qb ?_ ?_<;>rw [<-h1]
      ·exact Cl
      ·trivial
  ·rename_i k' es' off' n' c' e hl hu
   simp only [T.all,Ai] at h;obtain ⟨h1,h2⟩:=h;cases hargs:args.toList with
   |nil=>simp [hargs] at hl
   | cons x xs=>
    cases xs with
    |cons _ _=>simp [hargs] at hl
    | nil=>
     simp only [hargs,D2,IL,FL,Lf] at hl
     have hx:=(ev x).1
     rw [hl] at hx;simp only [R] at hx;obtain ⟨_,ad,e1,_⟩:=hx
     have ha:args=#[x]:=Mx
     cases ht:ty[0]? with
     |none=>simp [ht] at hu
     |some t=>
      simp only [ht,LZ] at hu;refine val h2.symm (v:=ag J n') Qb ?_ ?_<;>rw [<-h1]
      ·exact Cl
      ·trivial
  ·exact K7
 ·exact K7
structure Ev (b b':bx):Prop where
 cl:b.isCl=U->b'.isCl=U/\b'.t=b.t/\M b'.c=M b.c
 live:∀(β:aC->aL1) (k:aC),live β k b'->live β k b
 p:b'.p=X->b.p=X
def Ev.refl (b:bx):Ev b b:=⟨λh=>⟨h,rfl,rfl⟩,λ_ _ h=>h,λh=>h⟩
end Go.Sx
end
