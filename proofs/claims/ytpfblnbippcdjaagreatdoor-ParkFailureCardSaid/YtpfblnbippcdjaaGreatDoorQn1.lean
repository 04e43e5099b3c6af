/- Helpers for ParkFailure. Conditions: none. -/
import Derived.Test.YtpfblnbippcdjaaGreatDoorRows
import Derived.WalkKit
import Derived.WalkSpells
import Derived.WalkLawsBesides
import Derived.Deep.QuietTactic
import Derived.BigQuiet
import Derived.Deep.RegionHeld3
import Derived.Deep.DrawnRows
import Derived.Deep.DeepCutAuto
import Derived.RangeFuncLeaves
import Derived.RangeFuncRecord
import Derived.OrdersIn
import Derived.LoopNIn
import Derived.Deep.Upon
import Derived.Laws.MakeOwn
import Derived.LoopN
import Derived.Test.YtpfblnbippcdjaaGreatDoorProg
import Derived.Stop.Asserts
import Derived.Lib.IfaceEq
import Derived.RowKitTokens
import Derived.OpenShut
import Derived.ChangeShapes
import Derived.WideShapes
import Derived.Carry
import Derived.ChangeOld
import Derived.FnData
import Derived.Test.YtpfblnbippcdjaaGreatDoorCards
import Derived.Test.YtpfblnbippcdjaaGreatDoorTie
import Derived.ProofKit
import Derived.Deep.DeepHandedRow
import Derived.Lib.LaidTab
set_option linter.defProp false
set_option linter.unusedVariables false
set_option linter.unusedSimpArgs false
noncomputable section
open List renaming length→M,length→aa,replicate→aq,range→au
open Bool renaming true→U,true→ae,false→X,false→af
open Go.Value renaming int→Y,int→ag
open Option renaming some→ah,none→aj
open Go.IntKind renaming i64→J,i64→ai,u8→aw,u32→ax
open True renaming intro→ak
open Decidable renaming decide→an
open ByteArray renaming mk→av
open Go.Region renaming ready→ay,wanted→az
open Go.Instr renaming findNow→aA
namespace Go
abbrev Ac:=@decide_eq_true_eq
abbrev AY:=@Bool.and_eq_true
abbrev Af:=@Option.some.injEq
abbrev AD:=@if_pos
abbrev Ce:=@List.length_replicate
abbrev AE:=@if_neg
abbrev BD:=@List.length_append
abbrev Cv:=@decide_eq_false_iff_not
abbrev Aw:=@Prod.mk.injEq
abbrev CQ:=@beq_eq_false_iff_ne
abbrev CL:=@List.length_set
abbrev BR:=@List.all_eq_true
abbrev Bi:=@List.length_cons
abbrev Av:=@Nat.le_refl
abbrev B8:=@List.mem_cons
abbrev Bp:=@List.length_nil
abbrev CR:=@Int.toNat_of_nonneg
abbrev C3:=@Int.toNat_natCast
abbrev DQ:=@List.getD_eq_getElem?_getD
abbrev DR:=@List.getElem?_eq_getElem
abbrev Bu:=@List.not_mem_nil
abbrev Cl:=@Bool.or_eq_true
abbrev GF:=@Bool.or_eq_false_iff
abbrev DC:=@of_decide_eq_true
abbrev By:=@List.mem_append
abbrev CY:=@Go.run_underlying
abbrev Du:=@List.getElem?_eq_some_iff
abbrev DS:=@List.take_of_length_le
abbrev Cm:=@List.append_assoc
abbrev DT:=@List.getElem?_map
abbrev Ef:=@List.drop_eq_nil_of_le
abbrev CP:=@List.drop_zero
abbrev Ct:=@Bool.not_eq_true'
abbrev GC:=@List.getElem?_append_right
abbrev B1:=@congrArg
abbrev HL:=@List.getElem?_append_left
abbrev HM:=@Array.getElem?_eq_some_iff
abbrev Hy:=@Int.tdiv_eq_ediv_of_nonneg
abbrev Cz:=@beq_iff_eq
abbrev Eu:=@List.length_drop
abbrev Cu:=@Bool.false_or
abbrev DB:=@decide_eq_true
abbrev Ew:=@List.getElem?_drop
abbrev E6:=@List.take_length
abbrev Dt:=@Option.some.inj
abbrev E7:=@List.nil_append
abbrev GD:=@List.getElem_mem
abbrev M0:=@Int.mul_le_mul_of_nonneg_right
abbrev Bt:=@or_false
abbrev Ft:=@List.length_map
abbrev Hz:=@Bool.false_eq_true
abbrev I0:=@List.mem_iff_getElem
abbrev E8:=@List.map_cons
abbrev E9:=@Bool.true_and
abbrev Eg:=@List.mem_map
abbrev Bm:=@if_true
abbrev EK:=@Nat.zero_add
abbrev Fs:=@List.mem_filter
abbrev Hv:=@Bool.not_eq_false'
abbrev EL:=@bne_iff_ne
abbrev Hw:=@Bool.eq_false_iff
abbrev GB:=@List.append_nil
abbrev Dg:=@Int.le_refl
abbrev Hx:=@List.getElem?_set
abbrev JE:=@of_decide_eq_false
abbrev JF:=@List.map_congr_left
abbrev M4:=@List.length_eq_zero_iff
abbrev M5:=@Go.World.putObj_heap_other
abbrev HN:=@List.cons.injEq
abbrev IP:=@Bool.eq_iff_iff
abbrev I1:=@decide_eq_false
abbrev M6:=@List.length_take
abbrev Gp:=@List.map_map
abbrev HO:=@Nat.add_assoc
abbrev M7:=@List.mem_singleton
abbrev JG:=@Option.map_some
abbrev L1:=@List.getElem?_take
abbrev OR:=@List.mem_or_eq_of_mem_set
abbrev wZ:=@Array.toArray_toList
abbrev ZH:=@Function.comp_def
abbrev Pp:=@Int.fdiv_eq_ediv_of_nonneg
abbrev Pq:=@Array.getElem?_eq_getElem
abbrev Pr:=@Int.not_le
abbrev N1:=@Array.toList_map
abbrev M8:=@ge_iff_le
abbrev IQ:=@List.mem_range
abbrev N2:=@Nat.mul_le_mul_right
abbrev Fu:=@Nat.add_mul
abbrev IS:=@Int.mul_nonneg
abbrev HP:=@Nat.le_trans
abbrev Jw:=@List.map_append
abbrev L2:=@List.cons_append
abbrev Pk:=@Int.eq_ofNat_of_zero_le
abbrev IN:=@List.all_cons
abbrev OK:=@List.mem_of_getElem?
abbrev Ux:=@Int.mul_le_mul_of_nonneg_left
abbrev Eh:=@Go.mem_ready
abbrev SU:=@List.drop_eq_getElem_cons
abbrev Ky:=@List.foldl_cons
abbrev OM:=@List.length_pos_iff
abbrev Pl:=@List.mem_of_mem_erase
abbrev Ei:=@true_and
abbrev ZE:=@List.take_succ_eq_append_getElem
abbrev Pm:=@List.mem_of_mem_drop
abbrev M3:=@List.nodup_cons
abbrev ON:=@Option.bind_some
abbrev FM:=@if_false
abbrev Po:=@Int.natCast_nonneg
abbrev SV:=@List.mem_cons_of_mem
abbrev OO:=@beq_self_eq_true
abbrev OP:=@List.any_eq_true
abbrev Uy:=@List.getElem?_replicate
abbrev OQ:=@List.filter_cons
abbrev Kz:=@List.map_nil
abbrev L0:=@Int.le_trans
abbrev SW:=@Bool.or_eq_true_iff
abbrev ZF:=@Option.isNone_iff_eq_none
abbrev ZG:=@Decidable.byContradiction
abbrev ZC:=@List.getElem?_toArray
abbrev SQ:=@List.mem_filterMap
abbrev SR:=@List.mem_replicate
abbrev ZD:=@Option.isSome_iff_exists
abbrev Uv:=@List.erase_cons_tail
abbrev Uw:=@List.mem_of_mem_take
abbrev SS:=@List.length_range
abbrev Pj:=@List.range_succ
abbrev ju:=@Array.getD_eq_getD_getElem?
abbrev V2:=@Int.ediv_le_self
abbrev Pt:=@Bool.false_and
abbrev ZM:=@List.contains_iff_mem
abbrev ZN:=@List.getElem?_eq_none
abbrev wy:=@Bool.and_eq_false_iff
abbrev kE:=@List.isEmpty_eq_false_iff
abbrev kF:=@List.pairwise_iff_getElem
abbrev kG:=@List.getLastD_eq_getLast?
abbrev SZ:=@Int.ediv_nonneg
abbrev N3:=@Nat.zero_le
abbrev kH:=@Go.Result.andThen_ok
abbrev ZO:=@List.getElem?_set_ne
abbrev V3:=@Bool.not_eq_false
abbrev Pu:=@Int.sub_zero
abbrev wz:=@List.replicate_append_replicate
abbrev ZQ:=@List.replicate_succ
abbrev x6:=@List.eq_nil_iff_forall_not_mem
abbrev kJ:=@List.getElem?_cons_succ
abbrev Sa:=@Bool.and_false
abbrev Pv:=@Nat.lt_or_ge
abbrev ZR:=@Nat.lt_of_lt_of_le
abbrev ZS:=@List.filter_append
abbrev kK:=@List.set_append_right
abbrev x7:=@Array.getElem?_append_left
abbrev V4:=@Bool.and_assoc
abbrev x8:=@Int.tmod_eq_emod_of_nonneg
abbrev k6:=@List.replicate_succ'
abbrev ZJ:=@List.isEmpty_iff
abbrev amx:=@Array.mem_append
abbrev ZK:=@Nat.lt_succ_self
abbrev SX:=@Bool.or_true
abbrev wc:=@Array.mapM_eq_mapM_toList
abbrev k7:=@Array.getElem?_push
abbrev k8:=@Array.toList_append
abbrev aKW:=@List.getElem?_take_of_lt
abbrev ZL:=@Go.Oper.apart_spec
abbrev k9:=@List.pairwise_cons
abbrev kA:=@List.length_modify
abbrev kB:=@List.getElem_range
abbrev we:=@Classical.axiomOfChoice
abbrev SY:=@Nat.one_mul
abbrev wg:=@Nat.add_sub_cancel_left
abbrev V0:=@Go.callsIn_wide
abbrev V1:=@Nat.ne_of_lt
abbrev wh:=@Array.getElem?_eq_none
abbrev kC:=@Go.Sem.run_bind
abbrev wj:=@List.Perm.append_right
abbrev kD:=@List.flatMap_cons
abbrev wo:=@List.singleton_append
abbrev wq:=@List.length_filter_le
abbrev wu:=@Go.run_typeAssert_lacksB
abbrev wv:=@Int.mul_tdiv_add_tmod
abbrev jw:=@Option.getD_some
abbrev jx:=@List.ext_getElem
abbrev jy:=@List.nodup_range
abbrev ZI:=@List.any_cons
abbrev OS:=@and_true
abbrev Uz:=@List.map_id
abbrev aKU:=@List.drop_append_of_le_length
abbrev jz:=@List.foldr_cons
abbrev aKV:=@List.replicate_eq_append_iff
abbrev wb:=@Array.length_toList
abbrev xE:=@List.getElem?_range
abbrev xF:=@Nat.add_comm
abbrev Za:=@Nat.add_zero
abbrev xG:=@Go.Sem.run_pure
abbrev V6:=@Nat.not_lt
abbrev OU:=@Ne.symm
abbrev Zb:=@Go.getD_set_ne
abbrev xH:=@Go.run_storeCells_at
abbrev xI:=@List.nodup_append
abbrev xJ:=@List.filter_congr
abbrev xK:=@List.Pairwise.map
abbrev xL:=@List.reverse_perm
abbrev Zc:=@Int.one_mul
abbrev kU:=@Bool.and_true
abbrev amy:=@List.mem_toArray
abbrev xM:=@List.getElem_map
abbrev xN:=@Int.ediv_le_ediv
abbrev kV:=@Nat.le_of_eq
abbrev kW:=@Nat.zero_mul
abbrev kX:=@Go.execOp_congr
abbrev kY:=@List.any_nil
abbrev kZ:=@Nat.sub_self
abbrev xO:=@Array.size_push
abbrev ka:=@Int.add_mul
abbrev Sf:=@eq_comm
variable {p:Prop}
def Zd(h:p:=by
 have c1:s.i<s.n:=AX
 rw [AI (x:=s.i+1)];exact ⟨⟨AZ,AZ,h2,h3,hg,(by first|exact l1|(simp only [CL];exact l1)),l2,(by first|exact l3|(simp only [CL];exact l3)),(by first|exact l4|(simp only [CL];exact l4)),(by first|exact l5|(simp only [CL];exact l5))⟩,by simp only [bf];omega⟩):=h
def ZX(h:p:=by
 intro s hI;refine ⟨λc1=>⟨?_,?_,?_,ak⟩,λc1=>⟨A9,ak⟩⟩
 all_goals ((obtain ⟨h0,h1,h2,h3,h4⟩:=hI;(try simp only [Ac] at c1);first|omega|(refine ⟨A0,?_,?_⟩<;>simp only [Bi,Bp]<;>omega) |(simp only [BD,Bi,Bp];omega) |exact ⟨rfl,AJ⟩ |exact ⟨rfl,rfl⟩))):=h
def aKZ(h:p:=by
 have c1:s.k<s.m:=AX
 have c2:=QQ hI c2
 have hp:s.levels.getD (gi s.l s.k).toNat 0=s.level-1/\s.level<=FF s.B0 (gi s.l s.k) (gi s.most<|gi s.l s.k):=by
  refine ⟨c2,?_⟩
  have h6:=hI.2.2.1
  simp only [Cv] at c3;rw [<-h6] at c3;unfold FF;omega
 have hE:=W0 hI c1 c2
 rcases bu _ hE with ⟨q1,q2⟩ |⟨q1,q2,q3⟩
 ·rw [q1] at c4
  cases c4
 ·rw [q2] at c5
  cases c5):=h
def JH(h:p:=by
 rintro s ⟨h0,h1,h2,h3⟩
 exact ⟨A0,A0,h2,h3,λj hj=>A0⟩):=h
def L3(h:p:=by
 by_cases hji:(j:Int)<s.i
 ·exact h4 j hji
 ·have:(j:Int)=s.i:=A8
  rw [this];exact hg):=h
def xA(h:p:=by
 refine ⟨rfl,?_⟩;refine acv (by rw [I2];exact h4) λj j0 j1=>?_
 rw [I2] at j1;rw [Q5 j0 j1,h5 j j0 A0,AD (show j<s.i by omega)]):=h
def xB(h:p:=by
 refine ⟨hW.mask d1 d2 d3,λb hb=>?_⟩
 rcases hb with hb|⟨k,bk,hk1,hk2,hk3,rfl⟩
 ·exact d1.block b (hW.BY b hb)<|hW.nN hb
 ·have hkt:k∉tr:=by simpa using hk3
  rw [aBe] at hk1;cases hH:H2[k]? with
  |none=>simp [hH] at hk1
  |some b0=>
   simp only [hH,JG,Af,EK] at hk1;rw [AE<|by simpa using hkt] at hk1
   subst hk1;exact d1.block _ (hW.lt hH hk2)<|hW.acz hH hk2 hkt):=h
def Sc(h:p:=by
 intro s hI;refine ⟨λc1=>⟨?_,λ_=>trivial,λ_=>trivial⟩,λ_=>trivial⟩
 ·(obtain ⟨h0,h1,h2,h3,h4⟩:=hI;simp at c1;omega)):=h
def kO(h:p:=by
 have hG':(Fy (EB H d) l).all (λ_=>True):=aNm
 clear hG
 simp only [C2,R,okV,owns] at*;obtain ⟨ys,h1,h2⟩:=h;exact ⟨ys,h1,T7 h2 hk hS λx y hm hx hk' hr=>MT hW clo d x y (Od hG' _ hm) hx hk' hr⟩):=h
def Pw(h:p:=by
 have c:=EL.1 c
 show Kg _=_
 rw [(mh (by rw [s1];exact c)).1,(mh (by rw [s1];exact c)).2,s1]
 rfl):=h
def kP(h:p:=by
 simp only [Cz,CQ,ne_eq,Cl,GF,Ac,Cv,M8,Pr] at*;refine fin _ _ ?_ ?_<;>(clear fin w0 w3a w3b w4a w4b;omega)):=h
def aKa(h:p:=by
 have hrun:(execOp a.eval o).run P w=.ok .skip w':=Jx
 rw [hrun,<-h2];refine ⟨Z,β,e2,?_,?_,ak,A0,λ_ _=>rfl,λk k1 k2=>A0,by simp only [Ou,EY,ho];exact e6⟩
 ·rw [e3];exact hF.mono (Av _) (λ_ _=>rfl) (λ_ h=>h) e4
 ·simp only [R]):=h
def ZY(h:p:=by exact .inl ⟨rfl,λj hj=>h4 j A0⟩):=h
def Sd(h:p:=by
 rintro s ⟨h0,h2,h3,h4,h5,h6⟩
 exact ⟨A0,h2,h3,h4,λj j0 j1=>A8,h6⟩):=h
def kQ(h:p:=by
 intro s hI;refine ⟨λc1=>⟨?_,?_,λ_=>trivial,λ_=>trivial⟩,λ_=>trivial⟩
 all_goals ((obtain ⟨h0,h1,h2,h3,h4⟩:=hI;simp at c1;omega))):=h
def xC(h:p:=by
 intro s hI;refine ⟨λc1=>⟨?_,?_,?_,?_,ak⟩,λc1=>⟨A9,ak⟩⟩
 all_goals ((obtain ⟨⟨h0,h1⟩,h2,h3,h4,h5,h6⟩:=hI;(try simp only [Ac] at c1);first|omega|exact ⟨rfl,AJ⟩ |(omega)))):=h
def kR(h:p:=by
 by_cases e:j=s.i
 ·subst e
  rw [AD rfl,AD (show s.i<s.i+1 by omega)]
  rfl
 ·rw [AE e,h5 j j0 j1]
  by_cases q:j<s.i
  ·omega
  ·omega):=h
def xD(h:p:=by
 have e1:=λw=>run_sizeOf hsz w
 have e2:=λw=>mv hz w
 have n1:¬(len*m>2^24):=A0
 have n2:¬(len*m=0):=A0
 simp only [Instr.buildSlice,kC,CY hu,kH,e1,AE n1,AE n2,e2,xG,f1,newRow];rfl):=h
def aKb(h:p:=by
 have hrun:(execOp a.eval o).run P w=.ok (.value<|.map<|ah w.heap.size) (w.alloc<|.map #[] 0):=by simp [execOp,ho,Instr.makeMap]
 rw [hrun,<-h1,<-h2];refine ⟨Z,β',b3,hF.mono AJ b1 (λ_ h=>h) λb hz=>Dv b4<|hW.BY b hz,?_,?_,AJ,b1,λk k1 k2=>?_,N9 b4⟩
 ·simp only [R,b2]
 ·simp [okV]
 ·have:k=M H:=by simp at k2;omega
  rw [this,b2];exact .inl<|Av _):=h
def kS(h:p:=by
 simp only [Cz,CQ,ne_eq,Cl,GF,Ac,Cv,M8,Pr] at*;refine fin _ _ ?_ ?_<;>(clear fin w1a w1b w1c w3a w3b w4a w4b;omega)):=h
def aKc(h:p:=by
 simp only [Cz,CQ,ne_eq,Cl,GF,Ac,Cv,M8,Pr] at*;refine fin _ _ ?_ ?_<;>(clear fin w0 w1a w1b w1c w4a w4b;omega)):=h
def aKd(h:p:=by
 simp only [Cz,CQ,ne_eq,Cl,GF,Ac,Cv,M8,Pr] at*;refine fin _ _ ?_ ?_<;>(clear fin w0 w1a w1b w1c w3a w3b;omega)):=h
def N4(h:p:=by obtain ⟨h1,h2⟩:=same h;exact gen h1 h2):=h
def V5(h:p:=by
 simp only [renV,R] at*;rw [(h.at<|ho k IU).1];exact hr):=h
def Se(h:p:=by exact ⟨False,.junk,Fx,λH K=>by simp [T.all]⟩):=h
def ZZ(h:p:=by
 split at h
 ·simp only [T.all,Aw] at h
  rw [<-h.2];exact EvL.app _ _
 ·cases h):=h
def kT(h:p:=by
 simp only [renV,R,owns,okV] at*;obtain ⟨ys,h1,h2⟩:=hr;exact ⟨ys,h1,ren_RL h l _ ho hok h2⟩):=h
def Sb(h:p:=by
 have c1:s.n<=s.i:=A8
 exact ⟨rfl,A0⟩):=h
def ZT(h:p:=by exact val h2 (v:=z) Jx e2 e3):=h
def ZU(h:p:=by
 rintro s ⟨h0,h1,h2,h3⟩
 exact ⟨A0,A0,h1,h2,A0⟩):=h
def kL(h:p:=by
 simp only [R,okV] at*;obtain ⟨ys,h1,h2⟩:=h;exact ⟨ys,h1,RL.mono hβ hZ hw l _ hk h2⟩):=h
def aKX(h:p:=by
 split at h
 ·simp only [owns,M7] at hk
  split at h
  ·rename_i hb
   split at h
   ·grind
   ·cases h
  ·cases h
 ·simp [owns] at hk
 ·simp only [owns,M7] at hk
  subst hk;split at h
  ·rename_i hb;exact ⟨⟨_,hb,hr.1⟩,.inr ⟨_,_,_,rfl⟩⟩
  ·cases h
 ·cases h):=h
def aKY(h:p:=by
 unfold TV
 (rw [AI,h5] at c2;unfold koV;revert c2;generalize inB (OA s.l s.i).2.1 _ _=a;generalize inB (OA s.l s.i).2.2.1 _ _=b;generalize inB (OA s.l s.i).2.2.2 _ _=c;generalize List.contains (α:=Int) _ _=d;cases a<;>cases b<;>cases c<;>cases d<;>simp)):=h
def x9(h:p:=by
 split at h
 ·split at h
  ·rename_i hg
   rw [AD hg];rw [T.all_bind] at h|-;exact T.BW (λq hq=>hh _ _ hq) h
  ·cases h
 ·cases h):=h
def ZV(h:p:=by
 rename_i ho;rcases h with h|h
 ·simp [ER,ho] at h
 ·simp [I8,ho] at h):=h
def ZW(h:p:=by
 rename_i ho;rcases h with h|h
 ·simp [Mq,ho] at h
 ·simp [I8,ho] at h):=h
def kM(h:p:=by
 refine ⟨c2,?_⟩
 have h6:=hI.2.2.1
 simp only [Cv] at c3;rw [<-h6] at c3;unfold FF;omega):=h
def aL2(h:p:=by
 have hh':w'.heap[r]? =ah (.map es clock):=aNN
 have hget:(getObj r).run P w'=.ok (.map es clock) w':=lI
 have hz0:=λw=>mv hz w
 simp [Instr.lookup,CY hu,hy,hget,ml hku,Instr.findKey,CY hku,hzq,q1,hz0]):=h
def kf(h:p:=by
 simp only [R,owns,okV] at*;obtain ⟨ys,h1,h2⟩:=h;exact ⟨ys,h1,RL.KX l _ hj hk h2⟩):=h
def aL3(h:p:=by
 rw [hrun,<-h1,<-h2];refine ⟨Z,β',b3,hF.mono AJ b1 (λ_ h=>h) b4,?_,?_,AJ,b1,λk k1 k2=>?_,N9<|(Below.refl _ _).alloc (Av _) _⟩
 ·simp only [R,b2]
 ·simp [okV]
 ·have:k=M H:=by simp at k2;omega
  rw [this,b2];exact .inl<|Av _):=h
def aL4(h:p:=by
 have:=e1 w' λb hb=>(hD w' hw').2 b (by
  rcases hb with hb|⟨k,e4,e5⟩
  ·exact .inl hb
  ·obtain ⟨bk,l1,l2⟩:=hlv k e4
   refine .inr ⟨k,bk,l1,l2,?_,e5⟩;unfold qQ at hap;simp only [ho,e4] at hap
   simpa using hap)
 simp [execOp,ho,this]):=h
def kg(h:p:=by rw [FO<|hl x Ey]):=h
def Zi(h:p:=by
 rintro s ⟨h0,h1,h2,h3⟩
 exact ⟨A0,A0,h1,h2,h3⟩):=h
def aL5(h:p:=by
 rw [show (s.i+1).toNat=s.i.toNat+1 by omega,Hb,<-h5]
 have e1:s.o.getD s.i.toNat (Ty.dflt Ad)=Al s.o (s.i.toNat:Int):=by
  rw [DQ,DR A0];rw [show Al s.o (s.i.toNat:Int)=s.o[s.i.toNat]' A0 from cv A0];rfl
 rw [e1];rfl):=h
def N5(h:p:=by rename_i ho;simp [isSp,ho] at hsp):=h
def Sg(h:p:=by
 have c1:s.n<=s.i:=AX
 exact ZY):=h
def xV(h:p:=by
 have:=adl (P:=P) (G:=G) (Γ:=λ_=>aj) (F:=F) (y:=y) h
 unfold pux at this;unfold hpx;simp only [ho] at this|-;exact this):=h
def aL6(h:p:=by
 obtain ⟨_,⟨h2,h3,h4,h5⟩,_⟩:=hI
 have c2:((s.levels.getD (gi s.l s.k).toNat 0) !=(AA<|s.level-1))=true:=c2
 rw [AI (x:=s.level-1)] at c2
 have c2:¬s.levels.getD (gi s.l s.k).toNat 0=s.level-1:=EA
 exact c2 h.1):=h
def xW(h:p:=by
 have:=UY (β:=β) (Z:=Z) (w:=w)<|(au<|len*m).map λi=>z.cells[i%z.cells.size]!
 simpa [Gp,ZH] using this):=h
def ko(h:p:=by
 simp only [R] at*;obtain ⟨ys,h1,h2⟩:=hh;exact ⟨ys,h1,RL.shut h o' l _ h2⟩):=h
def aL7(h:p:=by
 simp only [R];refine ⟨_,rfl,?_⟩;simp only [N1];refine RL.CS AJ λi x hx=>?_
 rw [DT] at hx|-;cases hq:first.toList[i]? with
 |none=>simp [hq] at hx
 |some q=>simp [hq] at hx;subst hx;exact ⟨a.eval q,AJ,(ev q).1⟩):=h
def aL8(h:p:=by
 have hh':w'.heap[r]? =ah (.map es clock):=aNN
 have hget:(getObj r).run P w'=.ok (.map es clock) w':=lI
 simp [Instr.lookup,CY hu,hy,hget,ml hku,Instr.findKey,CY hku,hzq,q1]):=h
def aL9(h:p:=by
 simp only [R];refine ⟨_,rfl,?_⟩;simp only [N1];refine RL.CS AJ λi x hx=>?_
 rw [DT] at hx|-;cases hq:cap.toList[i]? with
 |none=>simp [hq] at hx
 |some q=>simp [hq] at hx;subst hx;exact ⟨a.eval q,AJ,(ev q).1⟩):=h
def aLA(h:p:=by
 rw [AD (show FH (Bb s.p.ca s.i) (CI s.p.mi s.i) (AG s.p.gs s.i).2.2.1 (Bg (AG s.p.gs s.i)<|BG s.p.st s.i)>Bg (AG s.p.gs s.i) (BG s.p.st s.i) from DC c5)];rw [show CV s.p.gs s.p.st s.i 6 2 0=_ from AD<|eq_of_beq c6];rfl):=h
def aLB(h:p:=by
 rw [AD (show FH (Bb s.p.ca s.i) (CI s.p.mi s.i) (AG s.p.gs s.i).2.2.1 (Bg (AG s.p.gs s.i)<|BG s.p.st s.i)>Bg (AG s.p.gs s.i) (BG s.p.st s.i) from DC c5)];rw [show CV s.p.gs s.p.st s.i 6 2 0=_ from AE<|CQ.1 c6];rfl):=h
def OV(h:p:=by exact JM us F H Z β F1 H1 hW hF h):=h
def xX(h:p:=by
 simp only [Bq] at hx;cases j with
 |zero=>simp at hx;subst hx;exact ⟨_,h,JJ⟩
 |succ j=>simp at hx):=h
def aLC(h:p:=by
 rename_i f l hl;simp only [T.all,Aw] at h;rw [hl] at hx
 have hx1:=hx.1
 simp only [R] at hx1;obtain ⟨ys,e1,_⟩:=hx1;refine val h.2.symm (v:=a.eval x) Jx ?_ ?_<;>rw [<-h.1]
 ·exact hx.1
 ·exact hx.2):=h
def aLD(h:p:=by
 rename_i f l hl;simp only [T.all,Aw] at h;rw [hl] at hx
 have hx1:=hx.1
 simp only [R] at hx1;obtain ⟨ys,e1,_⟩:=hx1;refine val (v:=a.eval x) (λw' _=>Jx) ?_ ?_<;>rw [<-h.1]
 ·exact hx.1
 ·exact hx.2):=h
def aLE(h:p:=by
 obtain ⟨a,cap,h1,h2,h3⟩:=h;refine ⟨a,cap,by rw [<-h1];exact hb 0 Zq,h2,λhn=>?_⟩
 obtain ⟨b',o',h4,h5,h6⟩:=h3 hn;exact ⟨b',o',h4,hZ _ h5,λi d hd=>RD.mono hZ hw e d b' _ h5<|h6 i d hd⟩):=h
def xY(h:p:=by
 obtain ⟨_,⟨cs,f2,f3⟩,_⟩:=pM hW hb hcl;refine ⟨cs,f2,?_⟩
 have:=RL.length f3
 simpa using this):=h
def aLF(h:p:=by
 rename_i t m i x ho;obtain ⟨H1,h1,h2⟩:=T.B2 h;simp only [T.all,Aw] at h2;obtain ⟨h2,h3⟩:=h2;subst h3;obtain ⟨w',e1,e2,e3,e4,e6⟩:=adi hW h1 (ev m).1 (ev i).1 (ev x).1 (ev x).2;exact aKa):=h
def xZ(h:p:=by
 show Lv _ _ _=Lv _ _ _
 rw [IP];unfold Lv;simp only [Cz,CQ,ne_eq] at*;simp only [AY,Cl,Ac];omega):=h
def aKi(h:p:=by
 rw [hrun];refine ⟨Z,β',e4,hF.mono A0 e3 (λ_ h=>h) λb hz=>Dv e2<|hW.BY b hz,e5,e6,A0,e3,λk k1 k2=>?_,N9 e2⟩
 have:k=M H:=A0
 rw [this,e8];exact .inl<|Av _):=h
def aKj(h:p:=by
 refine RL.CS AJ λi x hx=>?_
 rw [N1,DT];cases hq:args.toList[i]? with
 |none=>simp [hq] at hx
 |some q=>simp [hq] at hx;subst hx;exact ⟨a.eval q,AJ,Ov (hF.eval hW.CZ q).1⟩):=h
def aKk(h:p:=by
 simp only [T.all,Aw] at h;rw [hl] at hx
 have hx1:=hx.1
 simp only [R] at hx1;refine val h.2.symm (v:=a.eval x) (by simp [execOp,ho,hx1]) ?_ ?_<;>rw [<-h.1]
 ·exact hx.1
 ·exact hx.2):=h
def Px(h:p:=by
 simp [BJ,BO,Bc,hv,EW.ev,h]
 grind):=h
def aKl(h:p:=by
 simp only [T.all,Aw] at h;rw [hl] at hx
 have hx1:=hx.1
 simp only [R] at hx1;refine val (v:=a.eval x) (λw' _=>by simp [execOp,ho,hx1]) ?_ ?_<;>rw [<-h.1]
 ·exact hx.1
 ·exact hx.2):=h
def xU(h:p:=by
 rw [hg] at hq;simp only [Hz,FM] at hq;rw [hq];exact .inr ⟨rfl,rfl,rfl,rfl,rfl,rfl,rfl⟩):=h
def aKm(h:p:=by
 intro s hI;refine ⟨λc1=>⟨?_,λc2=>⟨A9,ak⟩,λc2=>⟨A9,ak⟩⟩,λc1=>⟨A9,ak⟩⟩
 ·(obtain ⟨h0,h1,h2,h3⟩:=hI;simp only [Ac] at c1;omega)):=h
def aKn(h:p:=by
 refine AS.CS λi x hx=>?_
 rw [DT] at hx;cases hq:(vs.map (·.2))[i]? with
 |none=>simp [hq] at hx
 |some q=>simp [hq] at hx;subst hx;exact QA H hH 6 _<|AS.get i q hoka hq):=h
def aKo(h:p:=by
 have:(j:Int)=s.i:=lP
 rw [this];exact hg):=h
def aKp(h:p:=by
 rw [KB h0 A0 j0,afL h0 A0 j0]
 by_cases e:j=s.i
 ·subst e
  rw [AD rfl,AD rfl,hx',hy'];exact ⟨rfl,rfl⟩
 ·rw [AE e,AE e]
  exact hA j j0 A0):=h
def aKq(h:p:=by
 rw [AE (show ¬FH (Bb s.p.ca s.i) (CI s.p.mi s.i) (AG s.p.gs s.i).2.2.1 (Bg (AG s.p.gs s.i)<|BG s.p.st s.i)>Bg (AG s.p.gs s.i) (BG s.p.st s.i) from JE c5)];rfl):=h
def kc(h:p:=by
 rintro s ⟨h0,h1,h2⟩
 exact ⟨A0,A0,h1,h2⟩):=h
def aKr(h:p:=by
 have c1:s.i<s.k:=AX
 refine .inr ⟨rfl,rfl,s.i.toNat,AZ,?_⟩
 have hg:WY s s.i=false:=aMp
 exact hg):=h
def aKs(h:p:=by (have hx:=QR s hI AX;obtain ⟨w1,w2⟩:=fW hI<|QQ hI c2;have hh:=I3.1<|hI.2.2.2.1.has _ hx.1;have hb:=hI.2.1;(first|rw [w2] |rw [w1]);omega)):=h
def Zg(h:p:=by
 rw [q3,hn,hl,Ef A0,hE.1] at hk
 grind):=h
def Zh(h:p:=by
 have c1:s.m<=s.i:=AX
 exact ZY):=h
def aKt(h:p:=by
 simp only [okV];refine AS.CS λi x hx=>?_
 rw [DT] at hx;cases hq:first.toList[i]? with
 |none=>simp [hq] at hx
 |some q=>simp [hq] at hx;subst hx;exact (ev q).2):=h
def aKu(h:p:=by
 refine ⟨hc.rw,?_,hc.near,hc.len,hc.old,hc.new,hc.Jl⟩;exact hF1'.mono (Av _) (λ_ _=>rfl) (λ_ h=>h) λb hz=>hc.near.block b (hW.BY b hz)<|hW.nN hz):=h
def aKv(h:p:=by
 simp only [okV];refine AS.CS λi x hx=>?_
 rw [DT] at hx;cases hq:cap.toList[i]? with
 |none=>simp [hq] at hx
 |some q=>simp [hq] at hx;subst hx;exact (ev q).2):=h
def aKw(h:p:=by
 split at h
 ·split at h
  ·split at h
   ·simp only at h
    split at h
    ·rename_i hb;exact ⟨_,hb,ak⟩
    ·cases h
   ·cases h
  ·cases h
 ·cases h):=h
def ke(h:p:=by exact val (v:=z) (λw' _=>Jx) e2 e3):=h
def aKx(h:p:=by
 have c1:s.t11<3:=AX
 rw [AI (x:=s.t11+1)];exact ⟨⟨ht,⟨AZ,AZ⟩,h1,h2⟩,by simp only [dh];omega⟩):=h
def aKy(h:p:=by
 generalize Bx (p.tk+1) (gi p.dr j)=x at*;generalize Bx p.tk (gi p.dr j)=y at*;generalize Bx (T+4) (gi p.dr j)=z at*
 clear this s1
 split<;>split<;>omega):=h
def aKz(h:p:=by
 rename_i x ho;simp only [T.all,Aw] at h;refine val h.2.symm (v:=a.eval x) (by simp [execOp,ho]) ?_ ?_<;>rw [<-h.1]
 ·exact (ev x).1
 ·exact (ev x).2):=h
def aL0(h:p:=by
 intro s hI;refine ⟨λc1=>⟨?_,λ_=>trivial,λ_=>trivial⟩,λ_=>trivial⟩
 ·(obtain ⟨⟨h0,h1⟩,h2,h3,h4⟩:=hI;simp only [Ac] at c1;omega)):=h
def aL1(h:p:=by
 rename_i x ho;simp only [T.all,Aw] at h;refine val (v:=a.eval x) (λw' _=>by simp [execOp,ho]) ?_ ?_<;>rw [<-h.1]
 ·exact (ev x).1
 ·exact (ev x).2):=h
def Ze(h:p:=by
 show (w.heap.push _)[w.heap.size]? =_
 simp):=h
def Dh(h:p:=by simp only [R]):=h
def aKe(h:p:=by
 refine AS.CS λi x hx=>?_
 cases hq:args.toList[i]? with
 |none=>simp [hq] at hx
 |some q=>simp [hq] at hx;subst hx;exact T6 (hF.eval hW.CZ q).2):=h
def xP(h:p:=by
 simp only [Ty.n] at hj
 have:j=0:=A0
 subst this;exact ⟨_,h,rfl⟩):=h
def aKf(h:p:=by
 unfold QX;split
 ·rename_i op t x z _ ho
  simp only [e x Ey,e z Ey]
 ·rfl):=h
def xR(h:p:=by
 unfold Lv;simp only [Cz,CQ,ne_eq] at*;simp only [wy,GF,Cv];omega):=h
def aKg(h:p:=by
 refine .inr ⟨q1,q2,?_⟩;rw [Hw];intro hx
 have:=(QK (d:=(0:Int))).2 hx j A0
 exact Bool.noConfusion<|this.symm.trans q4):=h
def aKh(h:p:=by rw [ado<|FO<|hl q.2 aMe]):=h
def xS(h:p:=by
 rintro s ⟨h0,h1,h2⟩
 exact ⟨A0,yi,h2⟩):=h
def Zf(h:p:=by
 have c1:s.k<=s.i:=A8
 exact xA):=h
def aLf(h:p:=by
 rw [e8.block k A0 λhm=>?_]
 ·exact hc.near.block k hk hn
 ·rcases hc.touch hst hm with h|h
  ·omega
  ·exact hn h):=h
def kv(h:p:=by (have hx:=QR s hI AX;omega)):=h
def kz(h:p:=by
 rintro s ⟨h0,h1⟩
 exact ⟨A0,h1⟩):=h
def xg(h:p:=by
 obtain ⟨y,zs,rfl,rfl,_⟩:=h;simp only [RD];exact hc 0 _ rfl):=h
def aLg(h:p:=by
 rename_i t m i x ho;unfold Au at h;simp only [ho] at h;obtain ⟨H1,h1,h2⟩:=T.B2 h;obtain ⟨_,rfl⟩:=h2;exact afM h1):=h
def xh(h:p:=by
 rw [q1,q2,Oq j q3 q4];exact ⟨λ_=>rfl,λc=>FN⟩):=h
def aLh(h:p:=by
 have:Cb (r::rs) (x-i)=Cb rs (x-(i+1)):=by
  unfold Cb;rw [show (x-i).toNat=(x-(i+1)).toNat+1 by omega]
  simp
 grind):=h
def aLi(h:p:=by
 split
 ·rename_i cs _
  exact ⟨True,.own k 0,⟨cs,t,.cl,X⟩,λH K=>aNz⟩
 ·exact Se):=h
def aLj(h:p:=by
 go_enter func220,Tryz.ntmps220
 go_wp2
 refine wp_loop_rounds 1 ?_;rw [rounds_succ]
 go_wp2
 go_ret
 exact ⟨rfl,rfl⟩):=h
def xi(h:p:=by simp only [Af] at hx;subst hx;simp only [R] at h1;rw [h1]):=h
def aLk(h:p:=by
 have c1:s.i<s.n:=A8
 rw [AI (x:=s.i+1)];exact ⟨⟨A8,A8,h2,h3⟩,by simp only [ui];omega⟩):=h
def aLl(h:p:=by
 simp only [Cz,CQ,ne_eq,Cl,GF,Ac,Cv,M8,Pr] at*
 (first|decide|(clear fin w0 w1a w1b w1c w4a w4b;omega))):=h
def aLm(h:p:=by
 split
 ·exact ⟨go _<|bT h hdd _,pass _<|bT h hdd _⟩
 ·exact ⟨pass _<|bT h hdd _,go _<|bT h hdd _⟩):=h
def aLn(h:p:=by
 rename_i x ho;unfold Au at hs;simp only [ho,T.all,Aw] at hs;exact other _ hs.1.symm hs.2.symm λj hj=>Sn hj):=h
def aLo(h:p:=by
 split at hx
 ·obtain ⟨rfl,_,hx⟩:=hx;exact ⟨_,_,hx⟩
 ·obtain ⟨_,ad,hx,_⟩:=hx;exact ⟨_,_,hx⟩):=h
def aLp(h:p:=by
 split at hx
 ·rename_i hk;subst hk;simp only [Af] at hx;subst hx;simp only [R] at h1;rw [h1]
 ·cases hx):=h
def aLq(h:p:=by exact aCm s _ hI AX aO5 rfl rfl rfl rfl rfl rfl rfl rfl rfl rfl):=h
def aLr(h:p:=by exact aCl s _ hI AX aO5 rfl rfl rfl rfl rfl rfl rfl rfl rfl rfl):=h
def aLs(h:p:=by
 split
 ·rename_i zs hz
  simp only [R]
  have:=aP1 hz h
  rw [<-this]
 ·simp only [R];exact ⟨ys,rfl,aE9 h⟩):=h
def aLt(h:p:=by
 refine (afN _ A6).2.trans ?_;rw [h7]
 show Eo _ 0 _ ((M s.p.AU.tg:Int)-0).toNat=_
 rw [Pu,C3,an3];rfl):=h
def aLu(h:p:=by
 refine AH (λc5=>?_) λc5=>?_
 ·refine AH (λc6=>?_) (λc6=>?_)
  ·exact Zd
  ·exact Zd
 ·exact Zd):=h
def N6(h:p:=by exact gen<|same h):=h
def aLv(h:p:=by
 rename_i x ho;refine ⟨True,AL G F x,aj,λH K=>?_⟩
 unfold Hl Au;rw [h1,h2]
 simp [ho,T.all,putAt]):=h
def xj(h:p:=by
 rw [AE e,h5 j j0 j1]
 by_cases q:j<s.i
 ·omega
 ·omega):=h
def xk(h:p:=by
 rintro s ⟨h0,h2⟩
 exact ⟨A0,A0,h2⟩):=h
def aLw(h:p:=by
 rintro s ⟨h0,h1,h2,h3,h4⟩
 exact ⟨A0,A0,h2,h3,h4,Fv,λj hj=>A0⟩):=h
def aLM(h:p:=by
 have:=TS n<|(au<|len*m).map λi=>z.cells[i%z.cells.size]!
 simpa [Gp,ZH] using this):=h
def aLN(h:p:=by
 rw [Jy];exact hF.mono (Av _) (λ_ _=>rfl) (λ_ h=> .inl<|.inl h) λb hz=>Dv hbw<|hW.BY b hz):=h
def xd(h:p:=by
 simp only [AY,Cz] at hcalm
 simpa using hcalm.1.1.2):=h
def aLO(h:p:=by
 unfold J5;split
 ·rename_i hc
  split
  ·rw [KB h.1 h.2 hj]
   split
   ·grind
   ·omega
  ·omega
 ·omega):=h
def aLP(h:p:=by exact ⟨⟨AZ,AZ,h2,h3,h4,h5,h6⟩,by simp only [dg];omega⟩):=h
def aLQ(h:p:=by
 simp only [C2];exact R.mono (n:=M H) (λ_ _=>rfl) (λ_ h=> .inl h) (λ_ _=>rfl) _ _ hk h):=h
def aLR(h:p:=by
 obtain ⟨_,_,h6,_⟩:=hI;simp only [Ac] at c3;rw [<-h6] at c3
 have:=h.2
 unfold FF at this;omega):=h
def V7(h:p:=by exact ⟨rfl,A0⟩):=h
def aLS(h:p:=by
 rintro s ⟨ht,h0,h1,h2,h3⟩
 exact ⟨ht,⟨A0,A0⟩,h1,A8,A8⟩):=h
def ku(h:p:=by
 unfold hpx;simp only [ho];exact kg):=h
def aLT(h:p:=by
 rw [Hy A0,show (M fl:Int) / 2=((M fl / 2:Nat):Int) by omega]
 exact AI):=h
def aLU(h:p:=by
 have h1:(0:Int)<=(x:Int)/\(x:Int)<=(y:Int):=A0
 simp [Instr.sliceBound,asIntOf,h1]):=h
def Sh(h:p:=by
 simp only [ho];rw [e]):=h
def aLV(h:p:=by
 rename_i x ho;unfold Au;simp only [ho];rw [FO<|hl x Ey];rfl):=h
def aLW(h:p:=by exact R.mono (n:=0) (λ_ hk=>absurd hk A0) (λ_ h=>h) (λ_ _=>rfl) _ _ hk hr):=h
def aLX(h:p:=by
 subst h;exact EvL.set hb ⟨λhc=>yV,λ_ _ _=>trivial,λh=>h⟩):=h
def aLY(h:p:=by
 have c1:s.n<=s.i:=AX
 exact .inl ⟨rfl,λj hj=>h6 j A0⟩):=h
def aLZ(h:p:=by
 rcases hz with hz|⟨k,bk,_,h2,h3,rfl⟩
 ·exact hW.BY b hz
 ·exact hW.lt h2 h3):=h
def aLa(h:p:=by
 simp only [canX,R] at h|-;obtain ⟨ys,h1,h2⟩:=h;exact ⟨ys,h1,canL_R h2⟩):=h
def aLb(h:p:=by
 rw [hj.Ub,hj.cl]
 have:Ly 512 fl (Ay x)=false:=N7
 rw [this];rfl):=h
def xe(h:p:=by
 rcases B8.1 hi with e|e
 ·grind
 ·exact e):=h
def Py(h:p:=by simpa using this):=h
def xf(h:p:=by exact ⟨Z2,β2,c1,c2,by rw [c3];simp⟩):=h
def aLc(h:p:=by
 rw [Jy];exact hF.mono (Av _) (λ_ _=>rfl) (λ_ h=> .inl h) λ_ _=>rfl):=h
def aLd(h:p:=by exact main _ es clock _ _ hr g1 g2 g3 hl b2.2 h<|.inr ⟨k,rfl,rfl⟩):=h
def aLe(h:p:=by
 simp only [R,Value.func.injEq,Fn.yield.injEq] at this;exact this.1.symm):=h
def aLG(h:p:=by
 split
 ·omega
 ·have:=oG (x:=a-mi) (st:=st) A0 A0
  omega):=h
def aLH(h:p:=by exact EvL.set hb ⟨λhc=>yV,λ_ _ h=>h,λh=>h⟩):=h
def aLI(h:p:=by
 unfold G3 chW at this;simp only [AY,Bf] at this;exact I3.2 A0):=h
def xa(h:p:=by exact ⟨A0,A0,h2,h3,h4⟩):=h
def aLJ(h:p:=by
 rw [AD q2,HL D2,GC D2]
 congr 1
 simp
 omega):=h
def aLK(h:p:=by
 have:=I3.1 h
 have:=oG (x:=ma-mi) (st:=st) A0 A0
 omega):=h
def xb(h:p:=by
 intro _ _ _ _ _ _ _ _ _ h;exact h.elim):=h
def aLL(h:p:=by
 obtain ⟨h1,h2⟩:=nO b fs (k+1) i h;refine ⟨A0,?_⟩
 grind):=h
def xc(h:p:=by rw [<-h];exact Vr<|by simpa using f2):=h
def kr(h:p:=by
 split at h
 ·grind
 ·cases h):=h
def aMF(h:p:=by
 split at h
 ·rename_i hkk
  simp only [R,okV] at hr hk
  grind
 ·cases h):=h
def aMG(h:p:=by
 rw [AD q1];simp only [ZC,Cm];rw [HL D2,aKW q1]
 simp):=h
def aMH(h:p:=by
 obtain ⟨j,⟨h0,h1⟩,rfl⟩:=aD5 ha
 have:=di<|h.ch h0 h1
 omega):=h
def xp(h:p:=by
 have e1:=e1 w λ_ _=>rfl
 exact ZT):=h
def aMI(h:p:=by
 rw [hv] at s2;rw [acp hg hd s2,AE AJ];exact passOk F hF h):=h
def aMJ(h:p:=by
 have:fs.toList[M fpre]? =ah f:=by rw [e1];simp
 exact Py):=h
def aMK(h:p:=by (obtain ⟨h0,h1,h2,h3,h4⟩:=hI;simp only [Ac] at c1;omega)):=h
def aML(h:p:=by
 rintro s ⟨h0,h2,h3,h4,h5⟩
 exact ⟨A0,h2,h3,h4,h5⟩):=h
def aMM(h:p:=by
 have:es=[]:=Fv
 subst this;exact .inr ⟨rfl,h.symm⟩):=h
def aMN(h:p:=by exact ext q g n.toNat A0 hle A0 hr hk h.symm):=h
def aMO(h:p:=by
 obtain ⟨x,h1,h2⟩:=T.B2 h;simp only [T.all,Aw] at h2
 grind):=h
def xr(h:p:=by rw [hl];simpa only [okV] using hk):=h
def aMP(h:p:=by exact val (v:=z) (λw' _=>aNy) f2 f3):=h
def Zk(h:p:=by
 split
 ·grind
 ·grind):=h
def aMQ(h:p:=by
 have:=h.2
 unfold J4 at this;split at this
 ·assumption
 ·omega):=h
def xt(h:p:=by
 split at h
 ·cases h;rfl
 ·cases h):=h
def aMR(h:p:=by
 rintro s ⟨h0,h2,h3⟩
 exact ⟨A0,A0,h2,h3⟩):=h
def aMS(h:p:=by
 have:es=[]:=Fv
 subst this;exact .inr ⟨rfl,rfl⟩):=h
def xu(h:p:=by rename_i hc;exact absurd hc hcap):=h
def aMT(h:p:=by
 have hG':=hG
 simp only [GX,EB,hb,T.all] at hG';exact hG'.1):=h
def aMU(h:p:=by
 simp only [T.all,Aw] at h;rw [<-h.2.2];exact EvL.app _ _):=h
def aMV(h:p:=by exact ⟨pw hI AX<|QQ hI c2,rfl,rfl⟩):=h
def aMW(h:p:=by
 unfold hpx;simp only [ho];rw [nG (λcs b e=>A8) h]):=h
def aMX(h:p:=by
 rintro s ⟨h0,h2,h3,h4⟩
 exact ⟨A0,h2,h3,h4⟩):=h
def aMY(h:p:=by
 unfold az;simp only [yielded,hd,ON,hv]
 grind):=h
def aMZ(h:p:=by rename_i x ho;rw [e x Ey]):=h
def aM0(h:p:=by rw [AE hs];exact ⟨λh=>h.elim,λh=>absurd h.1 hs⟩):=h
def aM1(h:p:=by exact val h2 (v:=z) aNy f2 f3):=h
def aM2(h:p:=by
 refine AH (λc6=>?_) λc6=>?_
 ·exact aKZ
 ·exact aKZ):=h
def aM3(h:p:=by
 rw [L1] at hv;split at hv
 ·exact hc j v hv
 ·cases hv):=h
def xm(h:p:=by exact .inr ⟨i',.inl h1,h2⟩):=h
def aM4(h:p:=by
 simp [IntKind.wrap,IntKind.bits,IntKind.signed]
 omega):=h
def aM5(h:p:=by
 rcases mem_set hm with hm|rfl
 ·exact h.mi m hm
 ·simp):=h
def aM6(h:p:=by
 refine ⟨λc7=>?_,λc7=>?_⟩
 ·exact kP
 ·exact kP):=h
def aM7(h:p:=by
 refine ⟨λc7=>?_,λc7=>?_⟩
 ·exact aKc
 ·exact aKc):=h
def aM8(h:p:=by
 refine ⟨λc8=>?_,λc8=>?_⟩
 ·exact aKd
 ·exact aKd):=h
def aM9(h:p:=by exact T.BW (λz hz=>by simp only [T.all];rw [hz]) h):=h
def xn(h:p:=by
 obtain ⟨h1,h2⟩:=adk h
 grind):=h
def aMA(h:p:=by
 refine AH (λc6=>?_) λc6=>?_
 ·cases c5
 ·cases c5):=h
def aMB(h:p:=by
 rw [BD]
 show s.n+1-((M s.Co+1:Nat):Int)=_
 omega):=h
def xo(h:p:=by
 rw [bad he Aa,he];rfl):=h
def aMC(h:p:=by
 by_cases hji:(j:Int)<s.i
 ·exact h6 j hji
 ·exact aKo):=h
def aMD(h:p:=by
 by_cases hji:(j:Int)<s.i
 ·exact h4 j hji
 ·exact aKo):=h
def A0(h:p:=by omega):=h
def A8(h:p:=by grind):=h
def DU(h:p:=by first|omega|exact ⟨rfl,rfl⟩ |exact ⟨rfl,by simp⟩ |exact ⟨by simp,by simp⟩ |(rw [Ce];omega)):=h
def AX(h:p:=by simpa using c1):=h
def AZ(h:p:=by simp only;omega):=h
def AT(h:p:=by kernel_rfl):=h
def AJ(h:p:=by simp):=h
def aME(h:p:=by unfold Tc;(obtain ⟨e0,e1,e2,e3,e4⟩:=h3;have hb:=e3 (gi s.l s.i).toNat;have c2:=c2;rw [AI (x:=s.sums.getD (gi s.l s.i).toNat (Ty.dflt A7)+s.more) (by show _<=s.sums.getD (gi s.l s.i).toNat 0+s.more;omega) (by show s.sums.getD (gi s.l s.i).toNat 0+s.more<=_;omega)] at c2;unfold KY;first|(have c3:(!(an<|s.sums.getD (gi s.l s.i).toNat 0+s.more<=(Cb s.BE<|gi s.l s.i).1))=true:=c2;simpa using c3) |(have c3:(!(an<|s.sums.getD (gi s.l s.i).toNat 0+s.more<=(Cb s.BE<|gi s.l s.i).1))=false:=c2;simpa using c3))):=h
def M9(h:p:=by first|omega|exact ⟨rfl,rfl⟩ |exact ⟨rfl,by simp⟩ |(rw [Ce];omega)):=h
def Aa(h:p:=by decide):=h
def l8(h:p:=by first|omega|exact ⟨rfl,rfl⟩ |exact ⟨rfl,by rw [C3];first|exact l1.symm|exact l2.symm|exact l3.symm⟩ |exact ⟨rfl,by simp⟩ |exact ⟨by simp,by simp⟩ |(rw [Ce];omega)):=h
def An(h:p:=by cases h):=h
def Ey(h:p:=by rw [ho];simp [Op.operands]):=h
def aLx(h:p:=by unfold O9;(simp only [show an (s.i<1)=X from I1<|by omega,Cu];(simp only [chB,chA];revert c2;generalize Jk s.text s.i=b;intro c2;by_cases h1:b>=97<;>by_cases h2:b<=122<;>by_cases h3:b>=48<;>by_cases h4:b<=57<;>simp_all))):=h
def V8(h:p:=by simp [execOp,ho,resolve,invoke,builtin,Builtin.len_,ha,ht,CY hu,e1,goInt]):=h
def V9(h:p:=by simp only [renV,okV];have:=(aBi 0<|ho k<|by simp [owns]).2.2;omega):=h
def aLy(h:p:=by unfold TT;(first|(have c2:(!(inB (OI s.l s.i).2 0<|AA<|(M s.B5:Int)-1))=false:=c2;simpa using c2) |(have c2:(!(inB (OI s.l s.i).2 0<|AA<|(M s.B5:Int)-1))=true:=c2;simpa using c2))):=h
def Zj(h:p:=by rw [ho];simp only [Op.operands,Call.operands,amx];exact .inr<|by grind):=h
def aLz(h:p:=by unfold TU;(first|(have c2:(!(G3 (M s.B9) (M s.BV)<|AG s.l s.i))=false:=c2;simpa using c2) |(have c2:(!(G3 (M s.B9) (M s.BV)<|AG s.l s.i))=true:=c2;simpa using c2))):=h
def EA(h:p:=by simpa using c2):=h
def VF(h:p:=by simp only [RD] at*;rw [<-h];exact hb 0<|by simp [Ty.n]):=h
def D2(h:p:=by simp;omega):=h
def IU(h:p:=by simp [owns]):=h
def Zr(h:p:=by simp only [C2,okV] at*;exact aBr h λx hx=>QA H hH d x hx):=h
def Zs(h:p:=by unfold FV;rw [hw D (hW.Ck D hD).1];exact (hW.Ck D hD).2):=h
def aMj(h:p:=by unfold TW;(first|(have c2:(!(Hi s.i<|Al s.l s.i))=false:=c2;simpa using c2) |(have c2:(!(Hi s.i<|Al s.l s.i))=true:=c2;simpa using c2))):=h
def Sj(h:p:=by have:=hW.lt hj lj;simp only at e;omega):=h
def aMk(h:p:=by unfold Tb;(first|(have c2:(!(Hc<|gi s.l s.i))=false:=c2;simpa using c2) |(have c2:(!(Hc<|gi s.l s.i))=true:=c2;simpa using c2))):=h
def Zt(h:p:=by simp only [renV,okV,owns] at*;exact ren_okL l ho hk):=h
def VG(h:p:=by simp [aA,Instr.sameNow,hk.1,hb]):=h
def Jx(h:p:=by simp [execOp,ho,e1]):=h
def lD(h:p:=by simp [execOp,ho,e1,e2,eqGuard,binOp,Op.shift,Int.not_lt.2 h0]):=h
def Zu(h:p:=by simp only [okV,noOwn] at*;exact noOwnL_ok l h hk):=h
def Zv(h:p:=by simp only [owns,okV] at*;exact okL_owns l hk j h):=h
def Zw(h:p:=by simp only [owns,okV] at*;exact okL_lower l hk h):=h
def OW(h:p:=by rw [w7] at c3;exact DC c3):=h
def azz(h:p:=by rw [C3];first|exact l1.symm|exact l2.symm|exact l3.symm):=h
def Q0(h:p:=by rw [<-wZ (xs:=args),hargs]):=h
def Q1(h:p:=by unfold PK.isC;simpa using c):=h
def Zx(h:p:=by simp only [R,okV] at*;rw [hβ k hk];exact h):=h
def aMl(h:p:=by show _<=s.sums.getD (gi s.l s.i).toNat 0+s.more;omega):=h
def aMm(h:p:=by show s.sums.getD (gi s.l s.i).toNat 0+s.more<=_;omega):=h
def lE(h:p:=by simp only [R] at*;rw [hj k<|by simp [owns]];exact h):=h
def Sk(h:p:=by simp only [aBd,aBb,aBa];exact h3):=h
def Zy(h:p:=by have:=hW.BY _ hz;simp only at this;omega):=h
def VB(h:p:=by simp [owns] at h;subst h;exact hk):=h
def l9(h:p:=by simp [execOp,ho,e1,e2,eqGuard,binOp,Op.intDiv,h0]):=h
def IT(h:p:=by simpa using c):=h
def aMe(h:p:=by rw [ho];simp only [Op.operands];first|exact Eg.2 ⟨q,hq,rfl⟩ |(simp;exact ⟨q.1,by grind⟩)):=h
def JJ(h:p:=by simp only [R]):=h
def xx(h:p:=by rw [ho];simp only [Op.operands,amy,Eg];exact ⟨q,hq,rfl⟩):=h
def Zn(h:p:=by unfold Gx;simp only [M6,Eu];omega):=h
def aMf(h:p:=by simp only [R,b2];exact ⟨by omega,⟨w.heap.size,0,aj⟩,by simp,λ_=>by simp⟩):=h
def Fv(h:p:=by simp_all):=h
def lA(h:p:=by simp only [okV] at*;exact AS.mono h l hk):=h
def Pz(h:p:=by simp only [aBk];omega):=h
def MB(h:p:=by rw [he];decide):=h
def aMg(h:p:=by unfold TY;(obtain ⟨_,g1,g2⟩:=h3;rw [AI (x:=s.n-1)] at c2;simpa using c2)):=h
def VC(h:p:=by simp only [okV] at*;omega):=h
def FN(h:p:=by cases c):=h
def N7(h:p:=by simpa using c3):=h
def Zo(h:p:=by show M p.gs<=1000;omega):=h
def VD(h:p:=by simpa only [R] using hh):=h
def lB(h:p:=by simp only [BD,Ft,Bi,Bp];omega):=h
def Zp(h:p:=by rw [<-e1,<-e2];exact hc.rf):=h
def aMh(h:p:=by unfold O8;cases e1:BL l<;>cases e2:inB t 0 1100000<;>simp_all):=h
def Zq(h:p:=by simp [Ty.n]):=h
def lC(h:p:=by unfold Au;simp only [ho,hm,ht]):=h
def VE(h:p:=by rw [AY,Bf,Bf];omega):=h
def xy(h:p:=by show (M s.p.AU.gs:Int)<=1000;omega):=h
def aMi(h:p:=by simp [execOp,ho,e1,e2,Instr.index,asIntOf,CY hu,h0,Jk,hg]):=h
def Zl(h:p:=by simp [az,hg]):=h
def VA(h:p:=by simp [World.setRow]):=h
def aMa(h:p:=by have:=hb j;(try simp only []);split<;>(try split)<;>omega):=h
def xv(h:p:=by simp only [RD] at*;rw [Q4 hb];exact h):=h
def MA(h:p:=by simp [okV]):=h
def aMb(h:p:=by show ((M (MI<|L8 d t).out:Nat):Int)<20;omega):=h
def aMc(h:p:=by simp only [Hk,T.lv,Keeps];exact ⟨h.1,h.2,ak⟩):=h
def aMd(h:p:=by unfold Kh;rw [wa];simp only [Dc];rw [CR h0,<-hb];rfl):=h
def Zm(h:p:=by rw [<-e2];exact hc.rw):=h
def xw(h:p:=by simp only [RD] at*;exact mj h o' hh):=h
def lI(h:p:=by simp [getObj,Sem.run,hh']):=h
def aN8(h:p:=by unfold leB;rw [wa];simp only [Ec];rw [CR h0,<-hb]):=h
def L4(h:p:=by cases hb):=h
def VL(h:p:=by simp [owns] at h):=h
def aN9(h:p:=by have:=hf 0;simp at this;simp [List.getD,<-this]):=h
def aNA(h:p:=by simp [IntKind.wrap,IntKind.bits,IntKind.signed]):=h
def lJ(h:p:=by simp only [R];rw [hv,e]):=h
def aNB(h:p:=by simp only [R] at*;rw [h,hj k<|by simp [owns]]):=h
def lK(h:p:=by simpa only [D8] using h):=h
def lL(h:p:=by simpa only [G4] using h):=h
def aNC(h:p:=by unfold Uc;(simp only [inB];simp at c2|-;omega)):=h
def aND(h:p:=by have:=hf<|j+1;simpa [HO,xF 1 j] using this):=h
def aNE(h:p:=by have:=ho<|j+1;simpa [HO,xF 1 j] using this):=h
def aNF(h:p:=by unfold AB.owns;rw [hbk];exact By.2<|.inr hj):=h
def yA(h:p:=by rw [oF<|by omega];exact GD _):=h
def aNG(h:p:=by simp [Array.getD,show 0<1+vals.size by omega]):=h
def VM(h:p:=by simp at c;omega):=h
def aNH(h:p:=by unfold Td;(simp only [Ac,Cv] at c2|-;omega)):=h
def aNI(h:p:=by unfold Ta;(simp only [Ac,Cv] at c2|-;omega)):=h
def lM(h:p:=by simp only [Ty.n];omega):=h
def lO(h:p:=by simpa [NM,ho] using ht):=h
def yB(h:p:=by simp only [Act.eval];exact hv):=h
def aNJ(h:p:=by unfold Fc;rw [AD hp,AE (by rw [q3];simp)]):=h
def Sl(h:p:=by simp [BA,hb]):=h
def lP(h:p:=by simp only at hj;omega):=h
def yC(h:p:=by show ((0:Nat):Int)<=0;decide):=h
def aMt(h:p:=by rw [Hy<|by omega];exact V2 _<|by omega):=h
def y6(h:p:=by simpa using BR.1 htr0 k hk):=h
def y7(h:p:=by rw [DT,DR<|by omega];rfl):=h
def aMu(h:p:=by rw [ho];simp [Op.operands,Call.operands]):=h
def aMv(h:p:=by simp only [H7];rw [AE λhh=>by omega]):=h
def aMw(h:p:=by show p.AU.tk+1=_;rw [(Vk p).2.2.2.2.2.1]):=h
def y8(h:p:=by unfold PK.AU;rw [AD h.up]):=h
def VH(h:p:=by rw [c];decide):=h
def aMx(h:p:=by unfold lpC;rw [C3];exact nQ<|by omega):=h
def aMy(h:p:=by unfold leC;rw [C3];exact nQ<|by omega):=h
def aMz(h:p:=by simp [execOp,ho,Instr.makeFunc,hfirst]):=h
def aN0(h:p:=by simp only [R] at hr|-;rw [QJ];exact hr):=h
def aN1(h:p:=by unfold Fc;rw [AD hp,AD q2,<-r1,<-w1]):=h
def aC(h:p:=by simp [Gc,h1,h2]):=h
def aN2(h:p:=by rw [cell_of_block hc];simpa using h1):=h
def aN3(h:p:=by simp [execOp,ho,e1,Instr.extract,e6]):=h
def aN4(h:p:=by simp [execOp,ho,Instr.makeFunc,hcap]):=h
def y9(h:p:=by simp [az,hgd]):=h
def aN5(h:p:=by rw [aE8];exact λx hx=>h x<|by grind):=h
def OX(h:p:=by cases hk):=h
def VJ(h:p:=by rw [<-e];rfl):=h
def lG(h:p:=by have:=DC c1;omega):=h
def lH(h:p:=by rw [h5];exact aBm _):=h
def aN6(h:p:=by show (M s.p.tg:Int)<=1000;omega):=h
def aN7(h:p:=by unfold I6 at hz;simpa [hi] using hz):=h
def aD(h:p:=by simpa using he):=h
def aMn(h:p:=by have:=RL.length hr;simpa using this):=h
def Zz(h:p:=by rw [c1];decide):=h
def aB(h:p:=by rw [c2];decide):=h
def xz(h:p:=by rw [<-hops];exact hcalm):=h
def lF(h:p:=by simp [noOwn] at h):=h
def aMo(h:p:=by unfold X6;(try simp only []);omega):=h
def aMp(h:p:=by unfold WY;(unfold raC CW;simp_all)):=h
def aMq(h:p:=by rcases hc with e|e<;>rw [e]<;>simp):=h
def aMr(h:p:=by simp [stepG,stepG.exec,Frame.atR]):=h
def aMs(h:p:=by unfold TX;(unfold Jm;rw [c2];rfl)):=h
def aG(h:p:=by rw [GQ];omega):=h
def aH(h:p:=by rw [h4];omega):=h
def lQ(h:p:=by simp at c3;omega):=h
def aNe(h:p:=by show (M gs:Int)<=1000;omega):=h
def aNf(h:p:=by show (M cs:Int)<=1000;omega):=h
def aNg(h:p:=by unfold Ar;(repeat' split)<;>simp):=h
def aNh(h:p:=by show (M ds:Int)<=5000;omega):=h
def yQ(h:p:=by unfold BO;rw [e1];rfl):=h
def aNi(h:p:=by show [(se,_)]=[(se,fl)];rw [z2]):=h
def aNj(h:p:=by simpa only [GX,EB,hb] using hG):=h
def VO(h:p:=by simp [ZH]):=h
def aNk(h:p:=by have:=okV_owns _ r3 k hk;omega):=h
def aNl(h:p:=by rw [Im<|by omega];exact GD _):=h
def yR(h:p:=by simp only [ov];omega):=h
def yS(h:p:=by simpa [VY] using ht):=h
def yT(h:p:=by simp [List.getD,hj]):=h
def yU(h:p:=by rw [K2];exact Av _):=h
def lR(h:p:=by simpa using hl):=h
def Q2(h:p:=by cases e):=h
def aNm(h:p:=by simpa only [GX,EB] using hG):=h
def aNn(h:p:=by simp [setObj,Sem.run,w',g1]):=h
def yV(h:p:=by simp [AB.Dk] at hc):=h
def VQ(h:p:=by simp [ho]):=h
def aNo(h:p:=by rw [hls];exact (HM.1 ho).1):=h
def aNp(h:p:=by intro x hx;simp at hx;omega):=h
def aNq(h:p:=by rw [CR h0,Kq,Q5 h0 hm,hx']):=h
def yI(h:p:=by rw [he];assumption):=h
def aNO(h:p:=by rw [EL.2 h] at c1;cases c1):=h
def aNP(h:p:=by rw [hsz];exact hW.BY b' hz):=h
def aNQ(h:p:=by simpa using (hW.gh p hp).2):=h
def aNR(h:p:=by simp [execOp,ho,e1,asBool]):=h
def aNS(h:p:=by simp only [R] at*;exact h3):=h
def aNT(h:p:=by unfold D1.a FH;rw [AD hB]):=h
def yJ(h:p:=by cases x<;>exact h):=h
def yK(h:p:=by simp only [BX,g2]):=h
def aF(h:p:=by simp at hl):=h
def aNU(h:p:=by simpa only [okV] using hk):=h
def aNV(h:p:=by simp only [D7,T.all] at h):=h
def aNW(h:p:=by simp only [CL];exact h10):=h
def yL(h:p:=by simp only [C2,R]):=h
def aNX(h:p:=by simp [getObj,Sem.run,g1]):=h
def yM(h:p:=by rw [h5];exact e1):=h
def VN(h:p:=by cases hd):=h
def yN(h:p:=by rw [T3,T3];omega):=h
def yO(h:p:=by simp at c4;omega):=h
def aNY(h:p:=by rw [h2,BD,acy,Ce];omega):=h
def yP(h:p:=by rw [hL];exact aCS):=h
def aNZ(h:p:=by simp only [CL];exact h9):=h
def aNa(h:p:=by rw [hb];exact Su _ _ _ _):=h
def aNb(h:p:=by rw [hB];exact Su _ _ _ _):=h
def aNc(h:p:=by simpa using (ho 0).symm):=h
def aNd(h:p:=by simpa only [RL] using h):=h
def aNK(h:p:=by have:=(q2 hm).2.1;omega):=h
def aNL(h:p:=by rw [AD hh] at he;omega):=h
def aNM(h:p:=by rw [AY,Bf,Bf,e6];omega):=h
def aNN(h:p:=by rw [hw' r hzr];exact hh):=h
def aE(h:p:=by simp [RL]):=h
def yD(h:p:=by simpa using hwt):=h
def yE(h:p:=by simp [c0,T.all]):=h
def yF(h:p:=by simp [c1,T.all]):=h
def yG(h:p:=by simp [c2,T.all]):=h
def yH(h:p:=by simp [c3,T.all]):=h
def yd(h:p:=by simp [c4,T.all]):=h
def ye(h:p:=by simp [c5,T.all]):=h
def aNr(h:p:=by rw [<-wZ (xs:=ty),ht]):=h
def aNs(h:p:=by simpa [Oi,ho] using hm):=h
def aNt(h:p:=by simpa [ownsL] using hj):=h
def aNu(h:p:=by rw [hg];simpa using c5):=h
def aNv(h:p:=by rw [hb];exact cE _ _ _):=h
def aNw(h:p:=by rw [hB];exact cE _ _ _):=h
def aNx(h:p:=by simp only;rw [h.1];rfl):=h
def aNy(h:p:=by simp [execOp,ho,e1,f1]):=h
def yf(h:p:=by simpa using hx):=h
def VS(h:p:=by rw [b2]):=h
def yg(h:p:=by simp [O5] at h):=h
def aNz(h:p:=by simp only [T.all,Ei]):=h
def yh(h:p:=by simpa using hk):=h
def aO0(h:p:=by simp [H8] at h1;omega):=h
def yi(h:p:=by rw [h0,h1];rfl):=h
def yj(h:p:=by simpa using c4):=h
def yk(h:p:=by rw [Eu];omega):=h
def aO1(h:p:=by rw [C3];exact nq rfl):=h
def aO2(h:p:=by unfold ES;rw [AD hE]):=h
def yl(h:p:=by rw [hE];decide):=h
def aO3(h:p:=by unfold Bc;rw [e1];rfl):=h
def aO4(h:p:=by unfold BO;rw [he];rfl):=h
def ym(h:p:=by simp [Bq,RL,R]):=h
def aO5(h:p:=by unfold Fc;rw [AE hn]):=h
def lS(h:p:=by rw [hl,h2]):=h
def yW(h:p:=by rw [K2];omega):=h
def yX(h:p:=by simpa using e):=h
def VR(h:p:=by rw [h]):=h
def lT(h:p:=by simp [w']):=h
def MC(h:p:=by rfl):=h
def yY(h:p:=by rw [<-hrec]):=h
def yZ(h:p:=by rw [pC,Ce]):=h
def lU(h:p:=by simp [h]):=h
def lV(h:p:=by cases hi):=h
def lX(h:p:=by cases hp):=h
def ya(h:p:=by simp at hk):=h
def yb(h:p:=by rw [e];rfl):=h
def yc(h:p:=by rw [h1,h2]):=h
end Go
namespace Go.Proofs.YtpfblnbippcdjaaGreatDoor
abbrev _root_.Go.AA:Int→Int:=Go.IntKind.i64.wrap
theorem _root_.Go.A9 {α β:Sort _}{a:α}{b:β}:a=a∧b=b:=⟨rfl,rfl⟩
set_option maxRecDepth 100000
set_option maxHeartbeats 4000000
open Go.Proofs.Tryz
open Go.RowKit
structure More where
 g:Array Obj
 d:Nat
instance:Inhabited More:=⟨⟨#[],0⟩⟩
open Go Go.RowKit
section
variable {P : Program} {ops : Array Oper} {md : Region.Mode} {G : Type} {D : World -> Prop} {C : G -> World -> Prop} {sp : Nat -> Bool}
def nt (P:Program) (w:World) (v:Value):Result Next->Prop
 | .ok (.value u) w'=>w'=w/\u=v
 | .ok .skip w'=>w'=w/\v=undef
 | .ok (.enter f args) w'=>w'=w/\Calls P f args w (λe w''=>e=.returned v/\Below w.heap.size w w'')
 |_=>False
def NQ (P:Program) (o:Oper) (a:Act) (w:World) (v:Value):Prop:=nt P w v<|(execOp a.eval o).run P w
def calm (P:Program) (o:Oper) (a:Act) (D:World->Prop) (next:Act->Prop):Prop:=∃v,(∀w,D w->NQ P o a w v)/\next (a.put o.dst v)
def DV (P:Program) (R:Value->World->Prop):Result Next->Prop
 | .ok (.value v) w'=>R v w'
 | .ok .skip w'=>R undef w'
 | .ok (.enter f args) w'=>Calls P f args w' λe w''=>∃v,e=.returned v/\R v w''
 | .ok (.round l f tmps assign body) w'=>RoundIn Fence.wide 0 P l f tmps assign body w' λe w''=>∃v,e=.returned v/\R v w''
 |_=>False
abbrev DP (r:Option Nat):Fence:={Fence.wide with round:=r}
theorem semAt_eq {o:Oper}{r:Option Nat}{ρ:Operand->Value}(h:∀c,o.op≠ .defer c):o.semAt r ρ=execOp ρ o:=by
 unfold Oper.semAt;split
 ·rename_i c hc
  grind
 ·rfl
def aC9 {o:Oper}{ρ:Operand->Value}{w:World}{c:Call}(h:o.op=.defer c):(∃d w',(execOp ρ o).run P w=.ok (.defer d) w')\/(∃x w',(execOp ρ o).run P w=.halt x w'):=by
 unfold execOp;cases hr:(resolve ρ c o.type).run P w with
 |ok d w'=>left;exact ⟨d,w',Fv⟩
 |halt x w'=>right;exact ⟨x,w',Fv⟩
def Tx (P:Program) (o:Oper) (a:Act) (C:G->World->Prop) (g:G) (K:Act->G->Prop):Prop:=
 ∀w,C g w->DV P (λv w'=>∃g',C g' w'/\K (a.put o.dst v) g') ((execOp a.eval o).run P w)
def Dr (P:Program) (ops:Array Oper) (D:World->Prop) (C:G->World->Prop) (sp:Nat->Bool) (i:Nat) (K:Act->G->Prop) (a:Act) (g:G):Prop:=
 match ops[i]? with
 |none=>K a g
 |some o=>if az o (yielded ops a.tmps) then (if sp i then Tx P o a C g K else calm P o a D λa'=>K a' g) else K (a.put o.dst undef) g
def nT {o:Oper}{a:Act}{K K':Act->Prop}(h:∀a,K a->K' a) (hh:calm P o a D K):calm P o a D K':=
 let ⟨v,h1,h2⟩:=hh
 ⟨v,h1,h _ h2⟩
def K0 {R R':Value->World->Prop}(h:∀v w,R v w->R' v w) {r:Result Next}(hh:DV P R r):DV P R' r:=by
 cases r with
 |ok n w'=>
  cases n<;>simp only [DV] at hh|-
  case value u=>exact h _ _ hh
  case skip=>exact h _ _ hh
  case enter f args=>exact hh.mono λe w'' ⟨v,he,hr⟩=>⟨v,he,h _ _ hr⟩
  case round l f tmps assign body=>exact hh.mono λe w'' ⟨v,he,hr⟩=>⟨v,he,h _ _ hr⟩
 |halt x w'=>simp only [DV] at hh
def aDH {o:Oper}{a:Act}{g:G}{K K':Act->G->Prop}(h:∀a g,K a g->K' a g) (hh:Tx P o a C g K):Tx P o a C g K':=
 λw hw=>K0 (λ_ _ ⟨g',hc,hk⟩=>⟨g',hc,h _ _ hk⟩)<|hh w hw
theorem aEG {i:Nat}{a:Act}{g:G}{K K':Act->G->Prop}(h:∀a g,K a g->K' a g) (hh:Dr P ops D C sp i K a g):Dr P ops D C sp i K' a g:=by
 unfold Dr at*;split
 ·grind
 ·rename_i o ho
  simp only [ho] at hh;split
  ·rename_i hw
   simp only [hw,Bm] at hh;split
   ·rename_i hs;simp only [hs,Bm] at hh;exact aDH h hh
   ·rename_i hs;simp only [hs] at hh;exact nT (λa=>h a g) hh
  ·grind
def KE (P:Program) (md:Region.Mode) (ops:Array Oper) (D:World->Prop) (C:G->World->Prop) (sp:Nat->Bool) (Q:Act->G->Prop):Nat->Array Bool->Act->G->Prop
 |0,listed,a,g=>ay md ops listed=[]/\Q a g
 |fuel+1,listed,a,g=>
  (ay md ops listed=[]->Q a g)/\
  ∀i∈ay md ops listed,Dr P ops D C sp i (KE P md ops D C sp Q fuel<|listed.setIfInBounds i U) a g
def aD9 {r:Option Nat}{m l:Nat}{f:FuncId}{tmps:Array Value}{assign body:Code}{w:World}{R:Ending->World->Prop}(h:RoundIn Fence.wide 0 P l f tmps assign body w R):RoundIn (DP r) m P l f tmps assign body w R:=
 ⟨ak,λc cs _=>h.2 c cs<|room_wide _⟩
theorem aeV {o:Oper}{a:Act}{K:Act->Prop}{K':Act->World->Prop}{Q':Exit->Act->World->Prop}{w:World}(hw:D w)
  (h:∀a w',Below w.heap.size w w'->K a->K' a w') (hh:calm P o a D K) (r:Option Nat) (m:Nat):o.wpIn (DP r) m P a w K' Q':=by
 obtain ⟨v,h1,h2⟩:=hh
 have h3:=h1 w hw
 unfold NQ at h3
 have hnd:∀c,o.op≠ .defer c:=λc hc=>by
  rcases aC9 (P:=P) (ρ:=a.eval) (w:=w) hc with ⟨d,w',e⟩ |⟨d,w',e⟩<;>rw [e] at h3<;>simp only [nt] at h3
 refine ⟨λ_ _=>trivial,?_⟩
 rw [semAt_eq hnd];generalize (execOp a.eval o).run P w=r at*;cases r with
 | ok n w'=>
  cases n<;>simp only [nt] at h3<;>simp only [Oper.uponIn]
  case value u=>
   obtain ⟨e1,e2⟩:=h3;rw [e1,e2];exact h _ _ (Below.refl _ _) h2
  case skip=>
   obtain ⟨e1,e2⟩:=h3;rw [e1,<-e2];exact h _ _ (Below.refl _ _) h2
  case enter f args=>
   obtain ⟨e1,hc⟩:=h3;rw [e1];exact ⟨λh=>An,V0.2<|hc.mono λe w'' ⟨he,hw''⟩=>A8⟩
 |halt x w'=>simp only [nt] at h3
theorem afh {o:Oper}{a:Act}{g:G}{K:Act->G->Prop}{K':Act->World->Prop}{Q':Exit->Act->World->Prop}{w:World}(hw:C g w)
  (h:∀a g w',C g w'->K a g->K' a w') (hh:Tx P o a C g K) (r:Option Nat) (m:Nat):o.wpIn (DP r) m P a w K' Q':=by
 have h3:=hh w hw
 have hnd:∀c,o.op≠ .defer c:=λc hc=>by
  rcases aC9 (P:=P) (ρ:=a.eval) (w:=w) hc with ⟨d,w',e⟩ |⟨d,w',e⟩<;>rw [e] at h3<;>simp only [DV] at h3
 refine ⟨λ_ _=>trivial,?_⟩
 rw [semAt_eq hnd];generalize (execOp a.eval o).run P w=r at*;cases r with
 | ok n w'=>
  cases n<;>simp only [DV] at h3<;>simp only [Oper.uponIn]
  case value u=>obtain ⟨g',h1,h2⟩:=h3;exact h _ _ _ h1 h2
  case skip=>obtain ⟨g',h1,h2⟩:=h3;exact h _ _ _ h1 h2
  case enter f args=>
   exact ⟨λh=>An,V0.2<|h3.mono λe w'' ⟨v,he,g',h1,h2⟩=>A8⟩
  case round l f tmps assign body=>
   exact ⟨λh=>An,aD9<|h3.mono λe w'' ⟨v,he,g',h1,h2⟩=>A8⟩
 |halt x w'=>simp only [DV] at h3
theorem ae8 (hD:∀g w,C g w->D w) (hkeep:∀g w w',C g w->Below w.heap.size w w'->C g w') {i:Nat}{a:Act}{g:G}{K:Act->G->Prop}{K':Act->World->Prop}{Q':Exit->Act->World->Prop}{w:World}(hC:C g w)
  (h:∀a g w',C g w'->K a g->K' a w') (hh:Dr P ops D C sp i K a g) (r:Option Nat) (m:Nat):wpOpIn (DP r) m P ops Q' i K' a w:=by
 unfold Dr at hh;unfold wpOpIn;split
 ·grind
 ·rename_i o ho
  simp only [ho] at hh;split
  ·rename_i hw
   simp only [hw,Bm] at hh
   by_cases hs:sp i=U
   ·simp only [hs,Bm] at hh;exact afh hC h hh r m
   ·simp only [hs] at hh;exact aeV (hD _ _ hC) (λa w' hb hk=>h a g w' (hkeep _ _ _ hC hb) hk) hh r m
  ·rename_i hw;simp only [hw] at hh;exact ⟨λ_ _=>trivial,h _ _ _ hC hh⟩
def nI (hD:∀g w,C g w->D w) (hkeep:∀g w w',C g w->Below w.heap.size w w'->C g w') {Q:Act->G->Prop}{Q':Exit->Act->World->Prop}(hQ:∀a g w,C g w->Q a g->Q' .normal a w) (r:Option Nat) (m:Nat):
  ∀(fuel:Nat) (listed:Array Bool) (a:Act) (g:G) (w:World),C g w->KE P md ops D C sp Q fuel listed a g->wpAnyIn (DP r) m P md ops Q' fuel listed a w
 |0,_,_,_,_,hw,h=>⟨h.1,hQ _ _ _ hw h.2⟩
 |fuel+1,_,_,_,_,hw,h=>⟨λh0=>hQ _ _ _ hw<|h.1 h0,λi hi=>ae8 hD hkeep hw (λa' g' w' hw'=>nI hD hkeep hQ r m fuel _ a' g' w' hw') (h.2 i hi) r m⟩
def LF (P:Program) (ops:Array Oper) (D:World->Prop) (o:Oper) (v:Value) (a:Act):Prop:=
 (az o (yielded ops a.tmps)=U/\∀w,D w->NQ P o a w v)\/
 (az o (yielded ops a.tmps)=X/\v=undef)
theorem LF.Dr {i:Nat}{o:Oper}{v:Value}{a:Act}{g:G}(hi:ops[i]? =ah o) (hs:sp i=X) (hy:LF P ops D o v a) {K:Act->G->Prop}(h:K (a.put o.dst v) g):Dr P ops D C sp i K a g:=by
 unfold Go.Proofs.YtpfblnbippcdjaaGreatDoor.Dr;simp only [hi];rcases hy with ⟨hw,hv⟩ |⟨hw,rfl⟩
 ·simp only [hw,Bm,hs,Hz,FM];exact ⟨v,hv,h⟩
 ·grind
def LF.of_same {o:Oper}{v:Value}{a a':Act}(hy:LF P ops D o v a) (he:execOp a'.eval o=execOp a.eval o)
  (hw:az o (yielded ops a'.tmps)=az o (yielded ops a.tmps)):LF P ops D o v a':=by
 unfold LF NQ at*
 rwa [he,hw]
theorem acr {i:Nat}{o:Oper}{a:Act}{g:G}{K:Act->G->Prop}(hi:ops[i]? =ah o) (hs:sp i=X) (h:Dr P ops D C sp i K a g):∃v,LF P ops D o v a/\K (a.put o.dst v) g:=by
 unfold Dr at h;simp only [hi] at h
 by_cases hw:az o (yielded ops a.tmps)=U
 ·simp only [hw,Bm,hs,Hz,FM] at h
  obtain ⟨v,h1,h2⟩:=h;exact ⟨v,.inl ⟨hw,h1⟩,h2⟩
 ·simp only [hw] at h
  exact ⟨undef,.inr ⟨A8,rfl⟩,h⟩
def aqz {j:Nat}{oi oj:Oper}{v:Value}(hj:ops[j]? =ah oj) (hap:oi.apart ops oj=U)
  (hsi:∀cs b,oi.op≠ .select cs b) (hsj:∀cs b,oj.op≠ .select cs b) {K:Act->G->Prop} {a:Act} {g:G}
  (hy:LF P ops D oi v a) (h:Dr P ops D C sp j K (a.put oi.dst v) g):
  Dr P ops D C sp j (λa' g'=>LF P ops D oi v a'/\K (a'.put oi.dst v) g') a g:=by
 obtain ⟨h1,h2,h3⟩:=ZL hap
 have keep:∀(a:Act),LF P ops D oi v a->∀u,LF P ops D oi v (a.put oj.dst u):=λa hy u=>
  hy.of_same (execOp_put oi hsi a oj.dst u h3) (wanted_put oi a oj.dst u h3)
 unfold Dr at*;simp only [hj] at*;rw [wanted_put oj a oi.dst v h1] at h;split
 ·rename_i hw
  simp only [hw,Bm] at h;split
  ·rename_i hs
   simp only [hs,Bm] at h;intro w hw'
   have:=h w hw'
   rw [execOp_put oj hsj a oi.dst v h1] at this;refine K0 (λu w'' ⟨g',hc,hk⟩=>⟨g',hc,keep a hy u,?_⟩) this
   rw [<-Act.put_comm a v u h2];exact hk
  ·rename_i hs
   simp only [hs] at h;obtain ⟨u,hu,hn⟩:=h;refine ⟨u,λw hw'=>?_,keep a hy u,by rw [<-Act.put_comm a v u h2];exact hn⟩
   have:=hu w hw'
   unfold NQ at*
   rwa [execOp_put oj hsj a oi.dst v h1] at this
 ·rename_i hw
  simp only [hw] at h;exact ⟨keep a hy _,by rw [<-Act.put_comm a v undef h2];exact h⟩
theorem adD {Q:Act->G->Prop}{i:Nat}{oi:Oper}{v:Value}(hi:ops[i]? =ah oi) (hs:sp i=X) (hsel:∀(j:Nat) (o:Oper) cs b,ops[j]? =ah o->o.op≠ .select cs b):
  ∀(fuel:Nat) (listed:Array Bool) (a:Act) (g:G),
   (∀j oj,ops[j]? =ah oj->j≠i->listed.getD j U=X->(∀e∈oj.after,Region.binds md e=U->e.on≠i)->oi.apart ops oj=U)->
   i∈ay md ops listed->LF P ops D oi v a->
   KE P md ops D C sp Q fuel (listed.setIfInBounds i U) (a.put oi.dst v) g->KE P md ops D C sp Q (fuel+1) listed a g:=by
 intro fuel
 induction fuel with
 | zero=>
  intro listed a g _ hr hy H;refine ⟨λh=>A8,λj hj=>?_⟩
  by_cases hji:j=i
  ·subst hji;exact hy.Dr hi hs H
  ·have:=ready_mono hj hji
   rw [H.1] at this;cases this
 | succ fuel ih=>
  intro listed a g hfree hr hy H;refine ⟨λh=>A8,λj hj=>?_⟩
  by_cases hji:j=i
  ·subst hji;exact hy.Dr hi hs H
  ·have h1:=H.2 j (ready_mono hj hji)
   obtain ⟨hjun,oj,hoj,hall⟩:=Eh.1 hj
   have hnot:∀e∈oj.after,Region.binds md e=U->e.on≠i:=λe he hb heq=>by
    have h1:=hall e he hb
    have h0:=(Eh.1 hr).1
    rcases Pv i listed.size with h'|h'
    ·grind
    ·grind
   have h2:=aqz hoj (hfree j oj hoj hji hjun hnot) (λcs b=>hsel i oi cs b hi) (λcs b=>hsel j oj cs b hoj) hy h1
   have hfree':∀k ok,ops[k]? =ah ok->k≠i->(listed.setIfInBounds j U).getD k U=X->
     (∀e∈ok.after,Region.binds md e=U->e.on≠i)->oi.apart ops ok=true:=λk ok hk hki hun hno=>by
    refine hfree k ok hk hki ?_ hno
    by_cases hjk:j=k
    ·grind
    ·simp_all
   refine aEG (λa' g' h3=>ih (listed.setIfInBounds j U) a' g' hfree' (ready_mono hr<|OU hji) h3.1 ?_) h2
   rw [Array.setIfInBounds_comm _ _ hji];exact h3.2
def Hd (P:Program) (ops:Array Oper) (D:World->Prop) (K:Act->Prop):List Bool->List Oper->Act->Prop
 |f::fs,o::os,a=>if f then Hd P ops D K fs os a else if az o (yielded ops a.tmps) then calm P o a D (Hd P ops D K fs os) else Hd P ops D K fs os (a.put o.dst undef)
 |_,_,a=>K a
def Ge (P:Program) (ops:Array Oper) (C:G->World->Prop) (Q:Act->G->Prop):List Bool->List Oper->Act->G->Prop
 |f::fs,o::os,a,g=>if f then (if az o (yielded ops a.tmps) then Tx P o a C g (Ge P ops C Q fs os) else Ge P ops C Q fs os (a.put o.dst undef) g) else Ge P ops C Q fs os a g
 |_,_,a,g=>Q a g
def Iw (md:Region.Mode) (ops:Array Oper) (flags:List Bool):List Nat->Array Bool->Bool
 | [],listed=>(ay md ops listed).isEmpty
 |i::is,listed=>(if flags.getD i X then ay md ops listed==[i] else (ay md ops listed).contains i&&Region.free md ops listed i)&&Iw md ops flags is (listed.setIfInBounds i U)
def idxs (b:Bool):List Bool->Nat->List Nat
 | [],_=>[]
 |f::fs,k=>if f=b then k::idxs b fs (k+1) else idxs b fs (k+1)
def gw (ops:Array Oper) (flags:List Bool):Bool:=letI a:=idxs X flags 0++idxs U flags 0;Region.noSelect ops&&M flags==ops.size&&M a==ops.size&&Iw .any ops flags a (Array.replicate ops.size X)
theorem aBo {flags:List Bool}{Q:Act->G->Prop}(hs:Region.noSelect ops=U):∀(is:List Nat) (listed:Array Bool) (a:Act) (g:G),
  Iw md ops flags is listed=U->(is.foldr (λi K=>Dr P ops D C (λi=>flags.getD i X) i K) Q) a g->KE P md ops D C (λi=>flags.getD i X) Q (M is) listed a g
 | [],_,_,_,hB,h=>⟨by simpa [Iw] using hB,h⟩
 | i::is,listed,a,g,hB,h=>by
  simp only [Iw,AY] at hB;obtain ⟨h1,h2⟩:=hB;simp only [jz] at h
  by_cases hf:flags.getD i X=U
  ·simp only [hf,Bm,Cz] at h1
   refine ⟨λh0=>A8,λj hj=>?_⟩
   rw [h1] at hj;obtain rfl:=M7.1 hj;exact aEG (λa' g' hk=>aBo hs is _ a' g' h2 hk) h
  ·rw [AE hf,AY] at h1
   obtain ⟨hr,hfr⟩:=h1
   have hr':i∈ay md ops listed:=A8
   obtain ⟨_,oi,hoi,_⟩:=Eh.1 hr';obtain ⟨v,hy,hK⟩:=acr hoi A8 h;exact adD hoi A8 (Region.noSelect_spec hs) (M is) listed a g (Region.free_spec hoi hfr) hr' hy<|aBo hs is _ _ _ h2 hK
theorem aC8 {flags:List Bool}{Q:Act->G->Prop}:∀(fs:List Bool) (os:List Oper) (k:Nat),(∀j,fs[j]? =flags[k+j]?)->(∀j,os[j]? =ops[k+j]?)->M fs=M os->
  ∀(a:Act) (g:G),Hd P ops D (λa=>Q a g) fs os a->((idxs X fs k).foldr (λi K=>Dr P ops D C (λi=>flags.getD i X) i K) Q) a g
 | [],[],_,_,_,_,_,_,h=>h
 | f::fs,o::os,k,hf,ho,hl,a,g,h=>by
  have ho0:ops[k]? =ah o:=aNc
  have hf0:flags.getD k X=f:=aN9
  have ih:=aC8 (Q:=Q) (flags:=flags) fs os (k+1) (λj=>aND) (λj=>aNE) A8
  cases f with
  |true=>simp only [idxs,Hd,Bool.true_eq_false,Bm,FM] at h|-;exact ih a g h
  |false=>
   simp only [idxs,Hd,Bm,Hz,FM] at h|-;simp only [jz];unfold Dr;simp only [ho0,hf0,Hz,FM];split
   ·rename_i hw;simp only [hw,Bm] at h;exact nT (λa' hk=>ih a' g hk) h
   ·rename_i hw;simp only [hw] at h;exact ih _ _ h
 | [],_::_,_,_,_,hl,_,_,_=>A8
 |_::_,[],_,_,_,hl,_,_,_=>A8
theorem aCi {flags:List Bool}{Q:Act->G->Prop}:∀(fs:List Bool) (os:List Oper) (k:Nat),(∀j,fs[j]? =flags[k+j]?)->(∀j,os[j]? =ops[k+j]?)->M fs=M os->
  ∀(a:Act) (g:G),Ge P ops C Q fs os a g->((idxs U fs k).foldr (λi K=>Dr P ops D C (λi=>flags.getD i X) i K) Q) a g
 | [],[],_,_,_,_,_,_,h=>h
 | f::fs,o::os,k,hf,ho,hl,a,g,h=>by
  have ho0:ops[k]? =ah o:=aNc
  have hf0:flags.getD k X=f:=aN9
  have ih:=aCi (Q:=Q) (flags:=flags) fs os (k+1) (λj=>aND) (λj=>aNE) A8
  cases f with
  |false=>simp only [idxs,Ge,Hz,FM] at h|-;exact ih a g h
  |true=>
   simp only [idxs,Ge,Bm] at h|-;simp only [jz];unfold Dr;simp only [ho0,hf0,Bm];split
   ·rename_i hw;simp only [hw,Bm] at h;exact aDH (λa' g' hk=>ih a' g' hk) h
   ·rename_i hw;simp only [hw] at h;exact ih _ _ h
 | [],_::_,_,_,_,hl,_,_,_=>A8
 |_::_,[],_,_,_,hl,_,_,_=>A8
theorem ae7 {r:Option Nat}{m:Nat}{Q:Exit->Act->World->Prop}{a:Act}{w:World}{l:List Oper}(flags:List Bool) (g:G)
  (hB:gw l.toArray flags=U) (hD:∀g w,C g w->D w) (hkeep:∀g w w',C g w->Below w.heap.size w w'->C g w') (hC:C g {w with drawn:=w.drawn+1})
  (h:Hd P l.toArray D (λa1=>Ge P l.toArray C (λa' g'=>∀w',C g' w'->Q .normal a' w') flags l a1 g) flags l a):wpAnyIn (DP r) m P .any l.toArray Q l.toArray.size (Array.replicate l.toArray.size X) a {w with drawn:=w.drawn+1}:=by
 simp only [gw,AY,Cz] at hB;obtain ⟨⟨⟨h1,h2⟩,h3⟩,h4⟩:=hB;refine nI (D:=D) (C:=C) (sp:=λi=>flags.getD i X) hD hkeep (Q:=λa' g'=>∀w',C g' w'->Q .normal a' w') (λ_ _ w' hw' h=>h w' hw') r m _ _ _ g _ hC ?_
 have h5:=aBo (P:=P) (D:=D) (C:=C) (Q:=λa' g'=>∀w',C g' w'->Q .normal a' w') h1 _ _ a g h4
 rw [h3] at h5;refine h5 ?_;rw [List.foldr_append];refine aC8 flags l 0 AJ AJ A8 a g ?_;refine (?_:∀(fs:List Bool) (os:List Oper) (a:Act),Hd P l.toArray D (λa1=>Ge P l.toArray C (λa' g'=>∀w',C g' w'->Q .normal a' w') flags l a1 g) fs os a->Hd P l.toArray D (λa=>(List.foldr (λi K=>Dr P l.toArray D C (λi=>flags.getD i X) i K) (λa' g'=>∀w',C g' w'->Q .normal a' w')<|idxs U flags 0) a g) fs os a) flags l a h
 intro fs
 induction fs with
 |nil=>intro os a hh;cases os<;>exact aCi flags l 0 AJ AJ A8 _ _ hh
 | cons f fs ih=>
  intro os a hh;cases os with
  |nil=>exact aCi flags l 0 AJ AJ A8 _ _ hh
  | cons o os=>
   simp only [Hd] at hh|-;split
   ·grind
   ·rename_i hf
    simp only [hf,Hz,FM] at hh;split
    ·rename_i hw;simp only [hw,Bm] at hh;exact nT (λa' hk=>ih _ _ hk) hh
    ·grind
def afn {D:World->Prop}{K:Act->Prop}{a:Act}(h:K a):Hd P ops D K [] [] a:=by simpa [Hd] using h
def afm {C:G->World->Prop}{Q:Act->G->Prop}{a:Act}{g:G}(h:Q a g):Ge P ops C Q [] [] a g:=by simpa [Ge] using h
def lz (md:Region.Mode) (ops:Array Oper):List Nat->Array Bool->Bool
 | [],_=>U
 |i::is,listed=>((ay md ops listed).contains i&&Region.free md ops listed i)&&lz md ops is (listed.setIfInBounds i U)
def TI:List Nat->Array Bool->Array Bool
 | [],l=>l
 |i::is,l=>TI is<|l.setIfInBounds i U
theorem adF {flags:List Bool}{Q:Act->G->Prop}(hs:Region.noSelect ops=U) (m:Nat):∀(is:List Nat) (listed:Array Bool) (a:Act) (g:G),(∀i∈is,flags.getD i X=X)->
  lz md ops is listed=U->(is.foldr (λi K=>Dr P ops D C (λi=>flags.getD i X) i K) λa g=>KE P md ops D C (λi=>flags.getD i X) Q m (TI is listed) a g) a g->KE P md ops D C (λi=>flags.getD i X) Q (M is+m) listed a g
 | [],_,_,_,_,_,h=>by rw [Bp,EK];exact h
 |i::is,listed,a,g,hf,hB,h=>by
  simp only [lz,AY] at hB;obtain ⟨⟨hr,hfr⟩,h2⟩:=hB;simp only [jz,TI] at h
  have hfi:=hf i AJ
  have hr':i∈ay md ops listed:=A8
  obtain ⟨_,oi,hoi,_⟩:=Eh.1 hr';obtain ⟨v,hy,hK⟩:=acr hoi hfi h
  have:=adD hoi hfi (Region.noSelect_spec hs) (M is+m) listed a g (Region.free_spec hoi hfr) hr' hy<|adF hs m is _ _ _ (λj hj=>hf j A8) h2 hK
  grind
theorem nO (b:Bool):∀(fs:List Bool) (k i:Nat),i∈idxs b fs k->k<=i/\fs[i-k]? =ah b
 | [],_,_,h=>by simp [idxs] at h
 | f::fs,k,i,h=>by
  simp only [idxs] at h;split at h
  ·rename_i hf
   rcases B8.1 h with rfl|h
   ·grind
   ·exact aLL
  ·exact aLL
def TP (ops:Array Oper) (flags:List Bool):Bool:=
 Region.noSelect ops&&M flags==ops.size&&M (idxs X flags 0)+M (idxs U flags 0)==ops.size&&lz .any ops (idxs X flags 0) (Array.replicate ops.size X)
theorem adC {r:Option Nat}{m:Nat}{Q:Exit->Act->World->Prop}{a:Act}{w:World}{l:List Oper}(flags:List Bool) (g:G)
  (hB:TP l.toArray flags=U) (hD:∀g w,C g w->D w) (hkeep:∀g w w',C g w->Below w.heap.size w w'->C g w') (hC:C g {w with drawn:=w.drawn+1})
  (h:Hd P l.toArray D (λa1=>KE P .any l.toArray D C (λi=>flags.getD i X) (λa' g'=>∀w',C g' w'->Q .normal a' w') (M<|idxs U flags 0) (TI (idxs X flags 0)<|Array.replicate l.toArray.size X) a1 g) flags l a):wpAnyIn (DP r) m P .any l.toArray Q l.toArray.size (Array.replicate l.toArray.size X) a {w with drawn:=w.drawn+1}:=by
 simp only [TP,AY,Cz] at hB;obtain ⟨⟨⟨h1,h2⟩,h3⟩,h4⟩:=hB;refine nI (D:=D) (C:=C) (sp:=λi=>flags.getD i X) hD hkeep (Q:=λa' g'=>∀w',C g' w'->Q .normal a' w') (λ_ _ w' hw' h=>h w' hw') r m _ _ _ g _ hC ?_
 have h5:=adF (P:=P) (D:=D) (C:=C) (flags:=flags) (Q:=λa' g'=>∀w',C g' w'->Q .normal a' w') h1 (M<|idxs U flags 0) (idxs X flags 0) _ a g (λi hi=>by
  obtain ⟨_,h⟩:=nO X flags 0 i hi;simp only [Nat.sub_zero] at h
  simp [List.getD,h]) h4
 rw [h3] at h5;refine h5 ?_;exact aC8 flags l 0 AJ AJ A8 a g h
def Tw (md:Region.Mode) (ops:Array Oper):Nat->List Nat->List Nat
 |0,l=>l
 |k+1,l=>l++Tw md ops k (l.flatMap λi=>match ops[i]? with
  |some o=>(o.after.toList.filter<|Region.binds md).map (·.on)
  |none=>[])
def lastB (md:Region.Mode) (ops:Array Oper) (o:Oper):Bool:=
 o.guard.isNone&&o.after.toList.all (λe=>an<|e.on<ops.size)&&
 (au ops.size).all (λi=>(match ops[i]? with
  |some p=>p.after.toList.all (λe=>an<|e.on<i)&&(match p.guard with|none=>U|some (j,_)=>an<|j<ops.size)
  |none=>U))&&
 (let l:=Tw md ops ops.size<|(o.after.toList.filter<|Region.binds md).map (·.on);(au ops.size).all λi=>l.contains i)
def Closed (md:Region.Mode) (ops:Array Oper) (listed:Array Bool):Prop:=
 ∀(i:Nat) (o:Oper),ops[i]? =ah o->listed.getD i X=U->∀e∈o.after,Region.binds md e=U->listed.getD e.on X=U
theorem Closed.back {listed:Array Bool}(hc:Closed md ops listed):∀(k:Nat) (l:List Nat),(∀i∈l,listed.getD i X=U)->∀i∈Tw md ops k l,listed.getD i X=U
 |0,_,h=>h
 | k+1,l,h=>λi hi=>by
  simp only [Tw,By] at hi;rcases hi with hi|hi
  ·exact h i hi
  ·refine Closed.back hc k _ (λj hj=>?_) i hi
   obtain ⟨i',h1,h2⟩:=List.mem_flatMap.1 hj;split at h2
   ·rename_i o ho
    obtain ⟨e,h3,rfl⟩:=Eg.1 h2;obtain ⟨h4,h5⟩:=Fs.1 h3;exact hc i' o ho (h i' h1) e A8 h5
   ·cases h2
def Closed.put {listed:Array Bool}(hc:Closed md ops listed) {i:Nat}(hi:i∈ay md ops listed):Closed md ops (listed.setIfInBounds i U):=λj o hj hl e he hb=>by
 by_cases hij:i=j
 ·subst hij
  obtain ⟨_,o',ho',h2⟩:=Eh.1 hi;obtain rfl:o'=o:=Dt<|ho'.symm.trans hj;exact getD_set_true<|h2 e he hb
 ·rw [Zb X hij] at hl
  exact getD_set_true<|hc j o hj hl e he hb
def Ve {l:Array Bool}{i:Nat}(d b:Bool) (h:i<l.size):(l.push b).getD i d=l.getD i d:=by
 simp [k7,V1 h]
def aE5 {l:Array Bool}(b d:Bool):(l.push b).getD l.size d=b:=AJ
theorem set_push {l:Array Bool}{i:Nat}(b:Bool) (h:i<l.size):(l.push b).setIfInBounds i U=(l.setIfInBounds i U).push b:=by
 apply Array.ext_getElem?
 intro j
 by_cases hij:i=j
 ·subst hij
  grind
 ·grind
def dN {l:Array Bool}{i:Nat}(h:i<l.size):l.getD i U=l.getD i false:=lU
theorem af9 {o:Oper}(hl:lastB md ops o=U) {listed:Array Bool}(hs:listed.size=ops.size) (hr:ay md ops listed=[]):∀i,i<ops.size->listed.getD i X=true:=by
 intro i
 induction i using Nat.strongRecOn with
 | _ i ih=>
  intro hi
  by_cases hL:listed.getD i X=U
  ·exact hL
  exfalso;simp only [lastB,AY,BR,IQ] at hl
  have:i∈ay md ops listed:=Eh.2 ⟨A8,_,Pq hi,λe he hb=>by
   have h3:e.on<i:=A8
   exact ih e.on h3 A0⟩
  rw [hr] at this;cases this
def XI (F:Fence) (m:Nat) (P:Program) (ops:Array Oper) (Q:Exit->Act->World->Prop) (n:Nat):Exit->Act->World->Prop
 | .normal,a,w=>wpOpIn F m P ops Q n (Q .normal) a w
 |e,a,w=>Q e a w
def aeS {F:Fence}{m n:Nat}{ops:Array Oper}{Q:Exit->Act->World->Prop}{o:Oper}{a:Act}{K:Act->World->Prop}{r:Result Next}(h:o.uponIn F m P a K (XI F m P ops Q n) r):o.uponIn F m P a K Q r:=by
 cases r with
 |ok x w'=>cases x<;>exact h
 |halt x w'=>cases x<;>exact h
def adz {o:Oper}{tmps:Array Value}{j:Nat}(h:j<ops.size):yielded (ops.push o) tmps j=yielded ops tmps j:=by
 simp [yielded,k7,V1 h]
def aqO {F:Fence}{m:Nat}{Q:Exit->Act->World->Prop}{o:Oper}(hl:lastB md ops o=U) {i:Nat}(hi:i<ops.size) {K:Act->World->Prop}{a:Act}{w:World}{n:Nat}
  (h:wpOpIn F m P ops (XI F m P (ops.push o) Q n) i K a w):wpOpIn F m P (ops.push o) Q i K a w:=by
 unfold wpOpIn at*;simp only [k7,V1 hi,FM,Pq hi] at h|-;simp only [lastB,AY,BR,IQ] at hl
 have h1:=hl.1.2 i hi
 simp only [Pq hi,AY] at h1
 have hw:az ops[i] (yielded (ops.push o) a.tmps)=az ops[i] (yielded ops a.tmps):=by
  unfold az
  have h2:=h1.2
  split
  ·rfl
  ·rename_i j want hg
   simp only [hg,Ac] at h2;rw [adz h2]
 rw [hw];split
 ·rename_i hw'
  rw [AD hw'] at h;exact ⟨h.1,aeS h.2⟩
 ·rename_i hw'
  rw [AE hw'] at h;exact h
theorem aC1 {o:Oper}(hl:lastB md ops o=U) {listed:Array Bool}(hs:listed.size=ops.size) {b:Bool}{i:Nat}(hi:i<ops.size) (h:i∈ay md (ops.push o) (listed.push b)):i∈ay md ops listed:=by
 obtain ⟨h1,o',ho',h2⟩:=Eh.1 h;rw [Ve _ _<|hs▸hi] at h1;simp only [k7,V1 hi,FM,Pq hi] at ho';obtain rfl:=Dt ho';refine Eh.2 ⟨h1,_,Pq hi,λe he hb=>?_⟩
 simp only [lastB,AY,BR,IQ] at hl
 have h4:e.on<i:=A8
 have h5:=h2 e he hb
 rwa [Ve _ _ A0] at h5
theorem QF {listed:Array Bool}{i:Nat}(h:i∈ay md ops listed):i<ops.size:=by
 obtain ⟨_,o,ho,_⟩:=Eh.1 h
 grind
def aeh {o:Oper}(hl:lastB md ops o=U) {listed:Array Bool}(hs:listed.size=ops.size) (hr:ay md ops listed=[]):ay md (ops.push o) (listed.push U)=[]:=by
 refine x6.2 λi hi=>?_
 have h1:=QF hi
 rw [xO] at h1;rcases Pv i ops.size with h2|h2
 ·have:=aC1 hl hs h2 hi
  rw [hr] at this;cases this
 ·obtain rfl:i=ops.size:=A0
  have h3:=(Eh.1 hi).1
  rw [<-hs,aE5] at h3;cases h3
theorem af5 {o:Oper}(hl:lastB md ops o=U) {listed:Array Bool}(hs:listed.size=ops.size) (ha:∀i,i<ops.size->listed.getD i X=U):ops.size∈ay md (ops.push o) (listed.push X):=by
 refine Eh.2 ⟨by rw [<-hs,aE5],o,AJ,λe he _=>?_⟩
 simp only [lastB,AY,BR] at hl
 have h1:e.on<ops.size:=A8
 rw [Ve _ _ A0]
 grind
theorem anO {o:Oper}(hl:lastB md ops o=U) {listed:Array Bool}(hs:listed.size=ops.size) (hc:Closed md ops listed) (h:ops.size∈ay md (ops.push o) (listed.push X)):ay md ops listed=[]:=by
 obtain ⟨_,o',ho',h2⟩:=Eh.1 h;simp only [lastB,AY,BR] at hl
 have h0:∀i∈Tw md ops ops.size ((o.after.toList.filter<|Region.binds md).map (·.on)),listed.getD i X=true:=hc.back _ _ λi hi=>by
  obtain ⟨e,h3,rfl⟩:=Eg.1 hi;obtain ⟨h4,h5⟩:=Fs.1 h3
  have h6:e.on<ops.size:=A8
  have h7:=h2 e A8 h5
  rwa [Ve _ _ A0] at h7
 refine x6.2 λi hi=>?_
 have h1:=QF hi
 have h3:=hl.2 i A8
 have h4:=h0 i A8
 have h5:=(Eh.1 hi).1
 rw [dN A0,h4] at h5;cases h5
theorem aeX {F:Fence}{m:Nat}{Q:Exit->Act->World->Prop}{o:Oper}(hl:lastB md ops o=U):∀(fuel:Nat) (listed:Array Bool) (a:Act) (w:World),listed.size=ops.size->Closed md ops listed->
  wpAnyIn F m P md ops (XI F m P (ops.push o) Q ops.size) fuel listed a w->wpAnyIn F m P md (ops.push o) Q (fuel+1) (listed.push X) a w:=by
 have hend:∀(fuel:Nat) (listed:Array Bool) (a:Act) (w:World),listed.size=ops.size->ay md ops listed=[]->wpOpIn F m P (ops.push o) Q ops.size (Q .normal) a w->
   wpOpIn F m P (ops.push o) Q ops.size (wpAnyIn F m P md (ops.push o) Q fuel<|(listed.push X).setIfInBounds ops.size U) a w:=λfuel listed a w hs hr h=>by
  have he:(listed.push X).setIfInBounds ops.size U=listed.push true:=by
   apply Array.ext_getElem?
   intro j
   by_cases hij:listed.size=j
   ·grind
   ·grind
  rw [he];refine wpOpIn_mono (λa w h=>?_) h
  have h0:=aeh hl hs hr
  cases fuel with
  |zero=>exact ⟨h0,h⟩
  |succ fuel=>exact ⟨λ_=>h,λi hi=>A8⟩
 have hdead:∀(listed:Array Bool),listed.size=ops.size->Closed md ops listed->ay md (ops.push o) (listed.push X)≠ []:=λlisted hs _ h=>by
  by_cases hr:ay md ops listed=[]
  ·have:=af5 hl hs (af9 hl hs hr)
   rw [h] at this;cases this
  ·obtain ⟨i,hi⟩:=List.exists_mem_of_ne_nil _ hr
   have hlt:=QF hi
   obtain ⟨h1,o',ho',h2⟩:=Eh.1 hi
   have:i∈ay md (ops.push o) (listed.push X):=Eh.2 ⟨by rw [Ve _ _ A0];exact h1,o',A8,λe he hb=>by
    have h3:=h2 e he hb
    rw [Ve]
    ·exact h3
    ·rcases Pv e.on listed.size with h'|h'
     ·exact h'
     ·simp [wh h'] at h3⟩
   rw [h] at this;cases this
 intro fuel
 induction fuel with
 | zero=>
  intro listed a w hs hc h;refine ⟨λh0=>absurd h0<|hdead listed hs hc,λi hi=>?_⟩
  have h1:=QF hi
  rw [xO] at h1;rcases Pv i ops.size with h2|h2
  ·have:=aC1 hl hs h2 hi
   rw [h.1] at this;cases this
  ·obtain rfl:i=ops.size:=A0
   exact hend 0 listed a w hs h.1 h.2
 | succ fuel ih=>
  intro listed a w hs hc h;refine ⟨λh0=>absurd h0<|hdead listed hs hc,λi hi=>?_⟩
  have h1:=QF hi
  rw [xO] at h1;rcases Pv i ops.size with h2|h2
  ·have hr:=aC1 hl hs h2 hi
   refine aqO hl h2<|wpOpIn_mono (λa w hk=>?_)<|h.2 i hr
   rw [set_push _ A0];exact ih _ a w A8 (hc.put hr) hk
  ·obtain rfl:i=ops.size:=A0
   have hr:=anO hl hs hc hi
   exact hend (fuel+1) listed a w hs hr<|h.1 hr
theorem adh {F:Fence}{m id:Nat}{Q:Exit->Act->World->Prop}{o:Oper}{a:Act}{w:World}(hm:P.follows .mixedOrders=U) (hl:lastB .any ops o=U)
  (h:wpAnyIn F m P .any ops (XI F m P (ops.push o) Q ops.size) ops.size (Array.replicate ops.size X) a {w with drawn:=w.drawn+1}):(Code.region id (ops.push o) U).wpIn F m P Q a w:=by
 refine wpIn_region_any hm ?_
 have h1:=aeX hl ops.size (Array.replicate ops.size X) a _ AJ (λi o' ho' hL=>by
  have:=(HM.1 ho').1
  simp [this] at hL) h
 grind
end
structure DL (tr:List Nat) (w w':World):Prop where
 os:w'.os=w.os
 tape:w'.tape=w.tape
 output:w'.output=w.output
 size:w.heap.size<=w'.heap.size
 block:∀k,k<w.heap.size->k∉tr->w'.heap[k]? =w.heap[k]?
def aeb {tr:List Nat}{w w1 w2:World}(h:DL tr w w1) (hb:Below w1.heap.size w1 w2):DL tr w w2:=
 ⟨hb.os.trans h.os,hb.tape.trans h.tape,hb.output.trans h.output,HP h.size hb.size,λk hk hn=>(hb.block k<|ZR hk h.size).trans<|h.block k hk hn⟩
def DL.refl (tr:List Nat) (w:World):DL tr w w:=⟨rfl,rfl,rfl,Av _,λ_ _ _=>rfl⟩
end Go.Proofs.YtpfblnbippcdjaaGreatDoor
namespace Go.Sx
open Go.Proofs.YtpfblnbippcdjaaGreatDoor
open Go Go.RowKit
inductive Ty where
 |int (k:IntKind)
 |bool
 |str
 |sl (e:Ty)
 |pair (a b:Ty)
abbrev A7:Ty:=.int .i64
abbrev Ty.D:Ty->Type
 | .int _=>Int
 | .bool=>Bool
 | .str=>ByteArray
 | .sl e=>List e.D
 | .pair a b=>a.D×b.D
def Ty.n:Ty->Nat
 | .pair a b=>a.n+b.n
 |_=>1
def Ty.dflt:(t:Ty)->t.D
 | .int _=>(0:Int)
 | .bool=>X
 | .str=>ByteArray.empty
 | .sl _=>[]
 | .pair a b=>(a.dflt,b.dflt)
abbrev gx {e:Ty}(l:List e.D) (n:Int):e.D:=l.getD n.toNat e.dflt
def RD (Z:Nat->Prop) (w:World):(t:Ty)->t.D->Nat->Nat->Prop
 | .int k,n,b,o=>w.cell? ⟨b,o,aj⟩=ah (Y k n)
 | .bool,x,b,o=>w.cell? ⟨b,o,aj⟩=ah (.bool x)
 | .str,s,b,o=>w.cell? ⟨b,o,aj⟩=ah (.string s)
 | .sl e,l,b,o=>∃a cap,w.cell? ⟨b,o,aj⟩=ah (.slice a (M l) cap)/\M l<=cap/\(0<M l->∃b' o',a=ah ⟨b',o',aj⟩/\Z b'/\∀(i:Nat) (d:e.D),l[i]? =ah d->RD Z w e d b' (o'+i*e.n))
 | .pair x y,d,b,o=>RD Z w x d.1 b o/\RD Z w y d.2 b (o+x.n)
def Q4 {w w':World}{b o:Nat}(h:w'.heap[b]? =w.heap[b]?):w'.cell? ⟨b,o,aj⟩=w.cell? ⟨b,o,aj⟩:=World.cell?_of_block (w:=w) (w':=w') h
def RD.keep {Z Z':Nat->Prop}{w w':World}(hZ:∀b,Z b->Z' b) (hw:∀b,Z b->w'.heap[b]? =w.heap[b]?):
  ∀(t:Ty) (d:t.D) (b o:Nat),w'.heap[b]? =w.heap[b]? ->RD Z w t d b o->RD Z' w' t d b o
 | .int _,_,b,o,hb,h=>xv
 | .bool,_,b,o,hb,h=>xv
 | .str,_,b,o,hb,h=>xv
 | .sl e,l,b,o,hb,h=>by
  obtain ⟨a,cap,h1,h2,h3⟩:=h;refine ⟨a,cap,by rw [Q4 hb];exact h1,h2,λhn=>?_⟩
  obtain ⟨b',o',h4,h5,h6⟩:=h3 hn;exact ⟨b',o',h4,hZ _ h5,λi d hd=>RD.keep hZ hw e d b' _ (hw b' h5)<|h6 i d hd⟩
 | .pair x y,d,b,o,hb,h=>by
  exact ⟨RD.keep hZ hw x d.1 b o hb h.1,RD.keep hZ hw y d.2 b _ hb h.2⟩
def RD.mono {Z Z':Nat->Prop}{w w':World}(hZ:∀b,Z b->Z' b) (hw:∀b,Z b->w'.heap[b]? =w.heap[b]?) (t:Ty) (d:t.D) (b o:Nat) (hz:Z b) (h:RD Z w t d b o):RD Z' w' t d b o:=RD.keep hZ hw t d b o (hw b hz) h
structure Loc where
 (b o:Nat)
 cap:Option Nat
instance:Inhabited Loc:=⟨⟨0,0,aj⟩⟩
inductive LV where
 |v (x:Value)
 |bl (b:Bool)
 |ki (k:IntKind) (n:Int)
 |own (k off:Nat)
 |agg (l:List LV)
 |AM (l:List LV)
 |fn (f:FuncId) (cap:List LV)
 |fb (f:FuncId) (fs:List LV)
 |xq (n:Nat) (f:Nat->LV)
 |xl (e:Ty) (l:List e.D)
 |os (k es off n:Nat)
 |op (k es i j:Nat)
 |om (k:Nat)
 |mp (kd:IntKind) (ks:List Int) (vs:List LV)
 |oc (k es off n c:Nat)
 |CO (k:Nat)
 |junk
mutual
def R (β:Nat->Loc) (Z:Nat->Prop) (w:World):LV->Value->Prop
 | .v x,y=>y=x
 | .bl b,y=>y=.bool b
 | .ki k n,y=>y=Y k n
 | .own k off,y=>y=.pointer (ah ⟨(β k).b,off,aj⟩)
 | .agg l,y=>∃ys,y=.agg ys/\RL β Z w l ys.toList
 | .AM l,y=>∃ys,y=.tuple ys/\RL β Z w l ys.toList
 | .fn f cap,y=>∃ys,y=.func (.func f) #[] ys/\RL β Z w cap ys.toList
 | .fb f cap,y=>∃ys,y=.func (.func f) ys #[]/\RL β Z w cap ys.toList
 | .xq n f,y=>∃b off,y=.pointer (ah ⟨b,off,aj⟩)/\Z b/\∀j,j<n->∃z,w.cell? ⟨b,off+j,aj⟩=ah z/\R β Z w (f j) z
 | .xl e l,y=>∃a cap,y=.slice a (M l) cap/\M l<=cap/\(0<M l->∃b off,a=ah ⟨b,off,aj⟩/\Z b/\∀(i:Nat) (d:e.D),l[i]? =ah d->RD Z w e d b (off+i*e.n))
 | .os k es off n,y=>match (β k).cap with
  |none=>n=0/\off=0/\y=.slice aj 0 0
  |some c=>off+n<=c/\∃a,y=.slice (ah a) n (c-off)/\(0<c-off->a=⟨(β k).b,(β k).o+off*es,aj⟩)
 | .op k es i j,y=>(β k).cap≠aj/\y=.pointer (ah ⟨(β k).b,(β k).o+i*es+j,aj⟩)
 | .om k,y=>y=.map (ah (β k).b)
 | .mp kd ks vs,y=>∃r es clock,y=.map (ah r)/\Z r/\w.heap[r]? =ah (.map es clock)/\es.toList.map (·.key)=ks.map (.int kd)/\RL β Z w vs (es.toList.map (·.val))
 | .oc k es off n c,y=>off+n<=c/\∃a,y=.slice (ah a) n (c-off)/\(0<c-off->a=⟨(β k).b,off*es,aj⟩)
 | .CO k,y=>y=.func (.yield (β k).b) #[] #[]
 | .junk,_=>True
def RL (β:Nat->Loc) (Z:Nat->Prop) (w:World):List LV->List Value->Prop
 | [],ys=>ys=[]
 |x::xs,ys=>∃y zs,ys=y::zs/\R β Z w x y/\RL β Z w xs zs
end
/-Which own blocks a value names:all below n. -/
mutual
def okV (n:Nat):LV->Prop
 | .v _=>True
 | .bl _=>True
 | .ki _ _=>True
 | .own k _=>k<n
 | .agg l=>AS n l
 | .AM l=>AS n l
 | .fn _ cap=>AS n cap
 | .fb _ cap=>AS n cap
 | .xq _ f=>∀j,okV 0 (f j)
 | .xl _ _=>True
 | .os k _ _ _=>k<n
 | .op k _ _ _=>k<n
 | .om k=>k<n
 | .mp _ _ vs=>AS n vs
 | .oc k _ _ _ _=>k<n
 | .CO k=>k<n
 | .junk=>True
def AS (n:Nat):List LV->Prop
 | []=>True
 |x::xs=>okV n x/\AS n xs
end
mutual
def okV.mono {n m:Nat}(h:n<=m):∀(x:LV),okV n x->okV m x
 | .v _,_=>trivial
 | .bl _,_=>trivial
 | .ki _ _,_=>trivial
 | .own k _,hk=>VC
 | .agg l,hk=>lA
 | .AM l,hk=>lA
 | .fn _ l,hk=>lA
 | .fb _ l,hk=>lA
 | .xq _ f,hk=>by simp only [okV] at*;exact hk
 | .xl _ _,_=>trivial
 | .os k _ _ _,hk=>VC
 | .op k _ _ _,hk=>VC
 | .om k,hk=>VC
 | .mp _ _ vs,hk=>by simp only [okV] at*;exact AS.mono h vs hk
 | .oc k _ _ _ _,hk=>VC
 | .CO k,hk=>VC
 | .junk,_=>trivial
def AS.mono {n m:Nat}(h:n<=m):∀(x:List LV),AS n x->AS m x
 | [],_=>trivial
 |x::xs,hk=>by simp only [AS] at*;exact ⟨okV.mono h x hk.1,AS.mono h xs hk.2⟩
end
mutual
def R.mono {β β':Nat->Loc}{Z Z':Nat->Prop}{w w':World}{n:Nat}(hβ:∀k,k<n->β' k=β k) (hZ:∀b,Z b->Z' b) (hw:∀b,Z b->w'.heap[b]? =w.heap[b]?):
  ∀(x:LV) (y:Value),okV n x->R β Z w x y->R β' Z' w' x y
 | .v _,_,_,h=>h
 | .bl _,_,_,h=>h
 | .ki _ _,_,_,h=>h
 | .own k off,y,hk,h=>by simp only [R,okV] at*;rw [h,hβ k hk]
 | .agg l,y,hk,h=>by
  exact kL
 | .AM l,y,hk,h=>by
  exact kL
 | .fn f l,y,hk,h=>by
  exact kL
 | .fb f l,y,hk,h=>by
  exact kL
 | .xq n f,y,hk,h=>by
  simp only [R,okV] at*;obtain ⟨b,off,h1,hz,h2⟩:=h;refine ⟨b,off,h1,hZ b hz,λj hj=>?_⟩
  obtain ⟨z,h3,h4⟩:=h2 j hj;exact ⟨z,by rw [Q4 (hw b hz)];exact h3,R.mono hβ hZ hw (f j) z (okV.mono (N3 _) _ (hk j)) h4⟩
 | .xl e l,y,hk,h=>by
  simp only [R] at*;obtain ⟨a,cap,h1,h2,h3⟩:=h;refine ⟨a,cap,h1,h2,λhn=>?_⟩
  obtain ⟨b,off,h4,h5,h6⟩:=h3 hn;exact ⟨b,off,h4,hZ b h5,λi d hd=>RD.mono hZ hw e d b _ h5 (h6 i d hd)⟩
 | .os k es off n,y,hk,h=>Zx
 | .op k es i j,y,hk,h=>Zx
 | .om k,y,hk,h=>Zx
 | .mp kd ks vs,y,hk,h=>by
  simp only [R,okV] at*;obtain ⟨r,es,clock,h1,h2,h3,h4,h5⟩:=h;exact ⟨r,es,clock,h1,hZ r h2,by rw [hw r h2];exact h3,h4,RL.mono hβ hZ hw vs _ hk h5⟩
 | .oc k es off n c,y,hk,h=>Zx
 | .CO k,y,hk,h=>Zx
 | .junk,_,_,_=>JJ
def RL.mono {β β':Nat->Loc}{Z Z':Nat->Prop}{w w':World}{n:Nat}(hβ:∀k,k<n->β' k=β k) (hZ:∀b,Z b->Z' b) (hw:∀b,Z b->w'.heap[b]? =w.heap[b]?):
  ∀(x:List LV) (y:List Value),AS n x->RL β Z w x y->RL β' Z' w' x y
 | [],_,_,h=>aNd
 |x::xs,ys,hk,h=>by
  simp only [RL,AS] at*;obtain ⟨y,zs,h1,h2,h3⟩:=h;exact ⟨y,zs,h1,R.mono hβ hZ hw x y hk.1 h2,RL.mono hβ hZ hw xs zs hk.2 h3⟩
end
def Bq:(t:Ty)->t.D->List LV
 | .int k,n=>[.v<|Y k n]
 | .bool,b=>[.v<|.bool b]
 | .str,s=>[.v<|.string s]
 | .sl e,l=>[.xl e l]
 | .pair a b,d=>Bq a d.1++Bq b d.2
def K2:∀(t:Ty) (d:t.D),M (Bq t d)=t.n
 | .int _,_=>rfl
 | .bool,_=>rfl
 | .str,_=>rfl
 | .sl _,_=>rfl
 | .pair a b,d=>by simp only [Bq,BD,Ty.n,K2 a d.1,K2 b d.2]
def NK (n:Nat):∀(t:Ty) (d:t.D),AS n (Bq t d)
 | .int _,_=>⟨ak,ak⟩
 | .bool,_=>⟨ak,ak⟩
 | .str,_=>⟨ak,ak⟩
 | .sl _,_=>⟨ak,ak⟩
 | .pair a b,d=>by
  have app:∀(l1 l2:List LV),AS n l1->AS n l2->AS n (l1++l2):=by
   intro l1
   induction l1 with
   |nil=>intro l2 _ h;exact h
   |cons x xs ih=>intro l2 h1 h2;exact ⟨h1.1,ih l2 h1.2 h2⟩
  simp only [Bq];exact app _ _ (NK n a d.1)<|NK n b d.2
def Wk {β:Nat->Loc}{Z:Nat->Prop}{w:World}:∀(t:Ty) (d:t.D) (b o:Nat),RD Z w t d b o->∀(j:Nat) (x:LV),(Bq t d)[j]? =ah x->∃z,w.cell? ⟨b,o+j,aj⟩=ah z/\R β Z w x z
 | .int k,n,b,o,h,j,x,hx=>by
  exact xX
 | .bool,n,b,o,h,j,x,hx=>by
  exact xX
 | .str,n,b,o,h,j,x,hx=>by
  exact xX
 | .sl e,l,b,o,h,j,x,hx=>by
  simp only [Bq] at hx;cases j with
  |zero=>
   simp at hx;subst hx
   simp only [RD] at h;obtain ⟨a,cap,h1,h2,h3⟩:=h;exact ⟨_,h1,by simp only [R];exact ⟨a,cap,rfl,h2,h3⟩⟩
  |succ j=>simp at hx
 | .pair p q,d,b,o,h,j,x,hx=>by
  simp only [Bq] at hx;simp only [RD] at h
  by_cases hj:j<p.n
  ·rw [HL (by rw [K2];exact hj)] at hx
   exact Wk p d.1 b o h.1 j x hx
  ·rw [GC yW,K2] at hx
   obtain ⟨z,h1,h2⟩:=Wk q d.2 b (o+p.n) h.2 (j-p.n) x hx;exact ⟨z,by rw [show o+j=o+p.n+(j-p.n) by omega];exact h1,h2⟩
def RL.length {β:Nat->Loc}{Z:Nat->Prop}{w:World}:∀ {l:List LV}{ys:List Value},RL β Z w l ys->M ys=M l
 | [],ys,h=>by simp only [RL] at h;simp [h]
 |x::xs,ys,h=>by
  simp only [RL] at h;obtain ⟨y,zs,rfl,_,h3⟩:=h
  simp [RL.length h3]
def RL.get {β:Nat->Loc}{Z:Nat->Prop}{w:World}:∀ {l:List LV}{ys:List Value}(i:Nat) (x:LV),RL β Z w l ys->l[i]? =ah x->∃y,ys[i]? =ah y/\R β Z w x y
 | [],ys,i,x,_,hx=>by simp at hx
 |x0::xs,ys,i,x,h,hx=>by
  simp only [RL] at h;obtain ⟨y,zs,rfl,h2,h3⟩:=h;cases i with
  |zero=>simp at hx;subst hx;exact ⟨y,AJ,h2⟩
  |succ i=>simp at hx;obtain ⟨y',h4,h5⟩:=RL.get i x h3 hx;exact ⟨y',by simpa using h4,h5⟩
def AS.get {n:Nat}:∀ {l:List LV}(i:Nat) (x:LV),AS n l->l[i]? =ah x->okV n x
 | [],i,x,_,hx=>by simp at hx
 |x0::xs,i,x,h,hx=>by
  simp only [AS] at h;cases i with
  |zero=>simp at hx;subst hx;exact h.1
  |succ i=>simp at hx;exact AS.get i x h.2 hx
def RL.CS {β:Nat->Loc}{Z:Nat->Prop}{w:World}:∀ {l:List LV}{ys:List Value},M ys=M l->(∀(i:Nat) (x:LV),l[i]? =ah x->∃y,ys[i]? =ah y/\R β Z w x y)->RL β Z w l ys
 | [],ys,hl,_=>by simp only [RL];exact M4.1 hl
 |x::xs,[],hl,_=>aF
 |x::xs,y::ys,hl,h=>by
  simp only [RL];refine ⟨y,ys,rfl,?_,RL.CS lR λi x' hx=>?_⟩
  ·obtain ⟨y',h1,h2⟩:=h 0 x AJ;simp at h1;subst h1;exact h2
  ·obtain ⟨y',h1,h2⟩:=h (i+1) x' yf;exact ⟨y',by simpa using h1,h2⟩
def AS.CS {n:Nat}:∀ {l:List LV},(∀(i:Nat) (x:LV),l[i]? =ah x->okV n x)->AS n l
 | [],_=>trivial
 |x::xs,h=>by simp only [AS];exact ⟨h 0 x AJ,AS.CS λi x' hx=>h (i+1) x' yf⟩
inductive T (α:Type) where
 |ok (x:α)
 |br (b:Bool) (t e:T α)
 |req (p:Prop) (t:T α)
 |no
def T.rv {β:Type}(x:LV) (t:T β):T β:=.req (x=x) t
def T.rl {α β:Type}(l:List α) (t:T β):T β:=.req (0=0/\M l=M l) t
def T.bind {α β:Type}(k:α->T β):T α->T β
 | .ok x=>k x
 | .br b t e=> .br b (t.bind k) (e.bind k)
 | .req p t=> .req p (t.bind k)
 | .no=> .no
def T.all {α:Type}(K:α->Prop):T α->Prop
 | .ok x=>K x
 | .br b t e=>(b=U->t.all K)/\(b=X->e.all K)
 | .req p t=>p/\t.all K
 | .no=>False
def T.all_bind {α β:Type}{k:α->T β}{K:β->Prop}:∀ {t:T α},(t.bind k).all K↔t.all (λx=>(k x).all K)
 | .ok _=>Iff.rfl
 | .br b t e=>by simp only [T.bind,T.all];rw [T.all_bind,T.all_bind]
 | .req p t=>by simp only [T.bind,T.all];rw [T.all_bind]
 | .no=>Iff.rfl
def T.BW {α:Type}{K K':α->Prop}(h:∀x,K x->K' x):∀ {t:T α},t.all K->t.all K'
 | .ok _,hh=>h _ hh
 | .br b t e,hh=>⟨λhb=>T.BW h<|hh.1 hb,λhb=>T.BW h<|hh.2 hb⟩
 | .req p t,hh=>⟨hh.1,T.BW h hh.2⟩
 | .no,hh=>hh
def Ic {α:Type}(P:Program):Sem α->Option α
 | .pure a=>ah a
 | .program k=>Ic P (k P)
 | .mark _ k=>Ic P k
 |_=>aj
def bY {α:Type}{P:Program}(w:World):∀ {s:Sem α}{a:α},Ic P s=ah a->s.run P w=.ok a w
 | .pure _,_,h=>by simp only [Ic,Af] at h;subst h;rfl
 | .program k,_,h=>by simp only [Ic] at h;exact bY w (s:=k P) h
 | .mark _ k,_,h=>by simp only [Ic] at h;exact bY w (s:=k) h
 | .load ..,_,h| .store ..,_,h| .new ..,_,h| .shape ..,_,h| .freeze ..,_,h| .frozen ..,_,h| .getObj ..,_,h| .setObj ..,_,h| .choose ..,_,h| .sys ..,_,h| .halt ..,_,h=>by simp [Ic] at h
inductive Ex where
 |normal
 |exit (n:Nat)
 |ret
inductive LS where
 |ready
 |busy
 |done (x:Ex)
inductive BK where
 |cl
 |vec (e:Ty) (l:List e.D)
 |mp (kd:IntKind) (ks:List Int) (vs:List LV)
 |Cg (ps:Array Tmp) (asg body:Code) (st:LS)
 |st (e:Ty) (l:List e.D)
 |dead
structure AB where
 c:List LV
 t:TypeId
 k:BK
 p:Bool
def AB.Dk (b:AB):Bool:=
 match b.k with
 | .cl=>U
 |_=>X
abbrev Az:=Nat->Option (Nat×(Nat->Value))
abbrev Specs:=FuncId->Option (List LV->T LV)
def pl:LV->Option Value
 | .v x=>ah x
 | .bl b=>ah (.bool b)
 | .ki k n=>ah (Y k n)
 | .fn f []=>ah (.func (.func f) #[] #[])
 |_=>aj
def Ay:List LV->Option (List Value)
 | []=>ah []
 |x::xs=>match pl x,Ay xs with
  |some y,ah ys=>ah (y::ys)
  |_,_=>aj
def norm:LV->LV
 | .bl b=> .v (.bool b)
 | .ki k n=> .v (Y k n)
 |x=>x
def JV (l:List LV):LV:=match Ay l with|some ys=> .v (.agg ys.toArray) |none=> .agg<|l.map norm
def Qx (l:List LV):LV:=match Ay l with|some ys=> .v (.tuple ys.toArray) |none=> .AM<|l.map norm
def Jh:Value->Bool
 | .agg _=>X
 | .tuple _=>X
 |_=>U
def WK:LV->Bool
 | .v x=>Jh x
 | .agg _=>X
 | .AM _=>X
 | .junk=>X
 |_=>U
def CN:LV->Option (List LV)
 | .v x=>if x.cells.toList.all Jh then ah (x.cells.toList.map .v) else aj
 | .agg l=>if l.all WK then ah l else aj
 | .AM _=>aj
 | .junk=>aj
 |x=>ah [x]
def Gs (P:Program) (t:TypeId):Option Nat:=(P.info? t).map (·.size)
def I6 (P:Program) (t:TypeId):Option Value:=(P.info? t).bind (·.zero)
def S9 (P:Program) (t:TypeId):Option Bool:=(P.underlying t).map fun| .struct _=>U| .array _ _=>U|_=>X
def AL (G:Az) (F:List LV):Operand->LV
 | .tmp t=>F.getD t .junk
 | .const x=>match x with| .bool b=> .bl b| Y k n=> .ki k n|y=> .v y
 | .global g=>match G g with|some (n,f)=> .xq n (λj=> .v<|f j) |none=> .junk
 | .func f=> .fn f []
def setAt (l:List LV) (off:Nat) (cs:List LV):List LV:=l.take off++cs++l.drop (off+M cs)
def w8 (k:IntKind):LV->Option Int
 | .v (.int k' n)=>if k'=k then ah n else aj
 | .ki k' n=>if k'=k then ah n else aj
 |_=>aj
def w9:LV->Option Bool
 | .v (.bool b)=>ah b
 | .bl b=>ah b
 |_=>aj
def wB:LV->Option ByteArray
 | .v (.string s)=>ah s
 |_=>aj
def JZ:(a b:Ty)->Option (PLift<|a=b)
 | .int k,.int k'=>if h:k=k' then ah ⟨VR⟩ else aj
 | .bool,.bool=>ah ⟨rfl⟩
 | .str,.str=>ah ⟨rfl⟩
 | .sl x,.sl y=>match JZ x y with
  |some ⟨h⟩=>ah ⟨VR⟩
  |none=>aj
 | .pair x y,.pair x' y'=>match JZ x x',JZ y y' with
  |some ⟨h⟩,ah ⟨h'⟩=>ah ⟨by rw [h,h']⟩
  |_,_=>aj
 |_,_=>aj
def KW {a b:Ty}(h:a=b) (l:List a.D):List b.D:=h▸l
def Mt (e:Ty):LV->Option (List e.D)
 | .xl e' l=>match JZ e' e with
  |some ⟨h⟩=>ah (KW h l)
  |none=>aj
 | .v (.slice aj 0 0)=>ah []
 |_=>aj
def hd1 {α:Type}(f:LV->Option α):List LV->Option α
 | [x]=>f x
 |_=>aj
def Je:(t:Ty)->List LV->Option t.D
 | .int k,l=>hd1 (w8 k) l
 | .bool,l=>hd1 w9 l
 | .str,l=>hd1 wB l
 | .sl e,l=>hd1 (Mt e) l
 | .pair a b,l=>match Je a (l.take a.n),Je b (l.drop a.n) with
  |some x,ah y=>ah (x,y)
  |_,_=>aj
def F8 (P:Program) (H:List AB) (t:TypeId) (x:LV):T LV:=
 match S9 P t,Gs P t with
 | some U,ah n=>
  match x with
  | .own k off=>match H[k]? with
   |some b=>if b.Dk=U/\off+n<=M b.c then .ok (JV<|(b.c.drop off).take n) else .no
   |none=> .no
  | .xq m f=>if n<=m then .ok (JV<|(au n).map f) else .no
  | .op k es i j=>match H[k]? with
   |some ⟨_,_,.vec e l,_⟩=>if e.n=es/\j+n<=es then .req (i<M l) (.ok<|JV<|((Bq e<|l.getD i e.dflt).drop j).take n) else .no
   |_=> .no
  |_=> .no
 | some X,_=>
  match x with
  | .own k off=>match H[k]? with
   |some b=>if b.Dk=U then (match b.c[off]? with
    |some y=> .ok y
    |none=> .no) else .no
   |none=> .no
  | .xq m f=>if 0<m then .ok (f 0) else .no
  | .op k es i j=>match H[k]? with
   |some ⟨_,_,.vec e l,_⟩=>if e.n=es then .req (i<M l) (match (Bq e<|l.getD i e.dflt)[j]? with
    |some y=> .ok y
    |none=> .no) else .no
   |_=> .no
  |_=> .no
 |_,_=> .no
def TL (P:Program) (H:List AB) (t:TypeId) (x y:LV):T (List AB):=
 match Gs P t,CN y with
 | some n,ah cs=>match x with
  | .own k off=>match H[k]? with
   |some b=>if b.Dk=U/\b.p=X/\M cs=n/\off+n<=M b.c then .ok (H.set k ⟨setAt b.c off cs,b.t,b.k,b.p⟩) else .no
   |none=> .no
  | .op k es i j=>match H[k]? with
   |some ⟨_,bt,.vec e l,X⟩=>if e.n=es/\M cs=n/\j+n<=es then .req (i<M l) (match Je e (setAt (Bq e<|l.getD i e.dflt) j cs) with
    |some d=> .ok (H.set k ⟨[],bt,.vec e<|l.set i d,X⟩)
    |none=> .no) else .no
   |_=> .no
  |_=> .no
 |_,_=> .no
def Wj (P:Program) (s:TypeId) (x:LV) (i:Nat):T LV:=
 match P.underlying s with
 | some (.struct fs)=>match fs[i]? with
  | some f=>match Gs P f.type with
   |some (m+1)=>match x with
    | .own k off=> .ok (.own k<|off+f.offset)
    | .op k es i j=> .ok (.op k es i<|j+f.offset)
    | .xq n g=>if f.offset+(m+1)<=n then .ok (.xq (n-f.offset) λj=>g<|f.offset+j) else .no
    |_=> .no
   |_=> .no
  |none=> .no
 |_=> .no
def wF (P:Program) (t:TypeId) (l:List LV) (i:Nat):T LV:=
 match P.underlying t with
 | some (.struct fs)=>match fs[i]? with
  | some f=>match S9 P f.type,Gs P f.type with
   |some U,ah n=>if f.offset+n<=M l then .ok (JV<|(l.drop f.offset).take n) else .no
   |some X,_=>match l[f.offset]? with
    |some y=> .ok y
    |none=> .no
   |_,_=> .no
  |none=> .no
 |_=> .no
def wL:LV->Option (List LV)
 | .agg l=>ah l
 | .v (.agg ys)=>ah (ys.toList.map .v)
 |_=>aj
def aBX (P:Program) (t:TypeId) (l:List LV) (i:LV):T LV:=
 match P.underlying t,i with
 |some (.array len e),.ki _ j=>match S9 P e,Gs P e,l[j.toNat]? with
  |some X,ah 1,ah y=>if 0<=j/\j<(len:Int) then .ok y else .no
  |_,_,_=> .no
 |_,_=> .no
def chain (n:Int) (g:Nat->LV):Nat->Nat->T LV
 |0,_=> .no
 |m+1,j=> .br (n==(j:Int)) (.ok<|g j)<|chain n g m<|j+1
def Ue:LV->Bool
 | .ki _ _=>U
 |_=>X
def addN:Nat->Nat->Nat
 |0,n=>n
 |m+1,n=>m+1+n
def atW:∀(m n:Nat),addN m n=m+n
 |0,n=>by simp [addN]
 |m+1,n=>rfl
def TN (P:Program) (t:TypeId) (x:LV) (c:Bool) (i:LV):T LV:=
 match pl i with
 | some (.int _ n)=>match P.underlying t with
  | some (.array len e)=>match Gs P e with
   |some (m+1)=>match x with
    | .op k es i j=>if c then (if 0<=n/\n<len then .ok (.op k es i<|j+n.toNat*(m+1)) else .no) else chain n (λq=> .op k es i<|j+q*(m+1)) len 0
    | .own k off=>if c then (if 0<=n/\n<len then .ok (.own k<|off+n.toNat*(m+1)) else .no) else chain n (λj=> .own k<|off+j*(m+1)) len 0
    | .xq q g=>if len*(m+1)<=q then (if c then (if 0<=n/\n<len then .ok (.xq (m+1) λj=>g<|n.toNat*(m+1)+j) else .no) else if len=3 then chain n (λi=> .xq (m+1) λj=>g<|i*(m+1)+j) len 0 else .req (0<=n/\n<(len:Int)) (.ok<|.xq (m+1) λj=>g<|n.toNat*(m+1)+j)) else .no
    |_=> .no
   |_=> .no
  |some (.slice e)=>match Gs P e,x with
   |some (m+1),.xl e' l=>if e'.n=m+1 then .req (0<=n/\n<(M l:Int)) (.ok<|.xq (m+1) λj=>(Bq e'<|gx l n).getD j .junk) else .no
   |some (m+1),.os k es off len=>if es=m+1 then .req (0<=n/\n<(len:Int)) (.ok<|.op k es (addN off n.toNat) 0) else .no
   |some (m+1),.oc k es off len cp=>if es=m+1 then (if c then (if 0<=n/\n<(len:Int) then .ok (.own k<|(off+n.toNat)*(m+1)) else .no) else chain n (λj=> .own k<|(off+j)*(m+1)) len 0) else .no
   |_,_=> .no
  |_=> .no
 |_=> .no
def KU (place:Nat->Option (Nat×Nat)) (cells:List LV):List (Nat×LV)->Option (List LV)
 | []=>ah cells
 |(i,x)::rest=>match place i,CN x with
  |some (off,size),ah cs=>if M cs=size/\off+size<=M cells then KU place (setAt cells off cs) rest else aj
  |_,_=>aj
def aP0 (P:Program) (t:TypeId):Option (Nat->Option (Nat×Nat)):=
 match P.underlying t with
 |some (.struct fields)=>(fields.toList.mapM λf=>(P.info? f.type).map λi=>(f.offset,i.size)).map λps=>λi=>ps.toArray[i]?
 |some (.array _ e)=>(P.info? e).map λie=>λi=>ah (i*ie.size,ie.size)
 |_=>aj
def NR (P:Program) (t:TypeId) (parts:List<|Nat×LV):T LV:=
 match I6 P t,aP0 P t with
 |some z,ah pf=>match KU pf (z.cells.toList.map .v) parts with
  |some cs=> .ok (if parts.any (λq=>Ue q.2) then .agg cs else JV cs)
  |none=> .no
 |_,_=> .no
def HZ (G:Az) (F:List LV):Operand->LV
 | .const x=>norm (AL G F<|.const x)
 |o=>AL G F o
def C2 (H:List AB):Nat->LV->LV
 |0,_=> .junk
 |d+1,.own k off=>match H[k]? with
  |some b=>if b.Dk then .xq (M b.c-off) (λj=>C2 H d<|b.c.getD (off+j) .junk) else .junk
  |none=> .junk
 |_+1,.os k es off n=>match H[k]? with
  |some ⟨_,_,.vec e l,_⟩=>if e.n=es then .xl e ((l.drop off).take n) else .junk
  |_=> .junk
 |_+1,.op k es i j=>match H[k]? with
  |some ⟨_,_,.vec e l,_⟩=>if e.n=es then .xq (es-j) (λq=>(Bq e<|l.getD i e.dflt).getD (j+q) .junk) else .junk
  |_=> .junk
 |d+1,.om k=>match H[k]? with
  |some ⟨_,_,.mp kd ks vs,_⟩=> .mp kd ks (vs.map<|C2 H d)
  |_=> .junk
 |_+1,.v x=> .v x
 |_+1,.bl x=> .v (.bool x)
 |_+1,.ki k n=> .v (Y k n)
 |d+1,.agg l=> .agg (l.map<|C2 H d)
 |d+1,.AM l=> .AM (l.map<|C2 H d)
 |d+1,.fn f l=> .fn f (l.map<|C2 H d)
 |d+1,.fb f l=> .fb f (l.map<|C2 H d)
 |_+1,.xq n f=> .xq n f
 |_+1,.xl e l=> .xl e l
 |d+1,.mp kd ks vs=> .mp kd ks (vs.map<|C2 H d)
 |_+1,.oc ..=> .junk
 |_+1,.CO _=> .junk
 |_+1,.junk=> .junk
def Fy {α:Type}(g:α->T Unit):List α->T Unit
 | []=> .ok ()
 |x::xs=>(g x).bind λ_=>Fy g xs
def EB (H:List AB):Nat->LV->T Unit
 |0,_=> .ok ()
 |d+1,.own k _=>match H[k]? with
  |some b=>Fy (EB H d) b.c
  |none=> .ok ()
 |_+1,.os k _ off n=>match H[k]? with
  |some ⟨_,_,.vec _ l,_⟩=> .req (off+n<=M l) (.ok ())
  |_=> .ok ()
 |_+1,.op k _ i _=>match H[k]? with
  |some ⟨_,_,.vec _ l,_⟩=> .req (i<M l) (.ok ())
  |_=> .ok ()
 |d+1,.om k=>match H[k]? with
  |some ⟨_,_,.mp _ _ vs,_⟩=>Fy (EB H d) vs
  |_=> .ok ()
 |d+1,.agg l=>Fy (EB H d) l
 |d+1,.AM l=>Fy (EB H d) l
 |d+1,.fn _ l=>Fy (EB H d) l
 |d+1,.fb _ l=>Fy (EB H d) l
 |d+1,.mp _ _ l=>Fy (EB H d) l
 |_+1,_=> .ok ()
mutual
def noOwn:LV->Bool
 | .own _ _=>X
 | .os ..=>X
 | .op ..=>X
 | .om _=>X
 | .oc ..=>X
 | .CO _=>X
 | .agg l=>noOwnL l
 | .AM l=>noOwnL l
 | .fn _ l=>noOwnL l
 | .fb _ l=>noOwnL l
 | .mp _ _ l=>noOwnL l
 |_=>U
def noOwnL:List LV->Bool
 | []=>U
 |x::xs=>noOwn x&&noOwnL xs
end
/-Which own blocks a value names. -/
mutual
def owns:LV->List Nat
 | .own k _=>[k]
 | .os k _ _ _=>[k]
 | .op k _ _ _=>[k]
 | .om k=>[k]
 | .oc k _ _ _ _=>[k]
 | .CO k=>[k]
 | .agg l=>ownsL l
 | .AM l=>ownsL l
 | .fn _ l=>ownsL l
 | .fb _ l=>ownsL l
 | .mp _ _ l=>ownsL l
 |_=>[]
def ownsL:List LV->List Nat
 | []=>[]
 |x::xs=>owns x++ownsL xs
end
def AB.owns (b:AB):List Nat:=ownsL b.c++(match b.k with| .mp _ _ vs=>ownsL vs|_=>[])
def reach (H:List AB):Nat->List Nat->List Nat->List Nat
 |0,_,acc=>acc
 |_+1,[],acc=>acc
 |d+1,k::ks,acc=>if acc.contains k then reach H d ks acc else reach H d (ks++(match H[k]? with|some b=>b.owns|none=>[])) (acc++[k])
def KC (H:List AB) (ks:List Nat) (l:List LV):Bool:=
 (ownsL l).all ks.contains&&ks.all (λk=>match H[k]? with|some b=>b.owns.all ks.contains|none=>X)
def FR (ks:List Nat):Nat->List AB->List AB
 |_,[]=>[]
 |k,b::bs=>(if ks.contains k then ⟨b.c,b.t,b.k,U⟩ else b)::FR ks (k+1) bs
def S5 (x:LV):Bool:=(pl x).isSome
def QS:T LV->T LV
 | .ok x=>if S5 x then .ok x else .no
 | .br b t e=> .br b (QS t) (QS e)
 | .req p t=> .req p (QS t)
 | .no=> .no
def gg (c a b:LV):T LV:=
 match c with
 | .bl U=> .ok a
 | .bl X=> .ok b
 | .v (.bool g)=>match norm a,norm b with
  | .v (Y k n),.v (.int k' m)=>if k=k' then .ok (.v<|Y k (if g then n else m)) else .no
  | .v (.bool p),.v (.bool q)=> .ok (.v<|.bool (if g then p else q))
  |_,_=> .br g (.ok a) (.ok b)
 |_=> .no
def Ur:List Bool->Bool
 | []=>U
 | [p]=>p
 |p::ps=>p&&Ur ps
mutual
def eqV (P:Program):Nat->TypeId->Value->Value->Option Bool
 |0,_,_,_=>aj
 |d+1,t,x,y=>match P.underlying t,x,y with
  |some (.int _),Y k a,.int k' b=>if k=k' then ah (a==b) else aj
  |some .bool,.bool a,.bool b=>ah (a==b)
  |some .string,.string a,.string b=>ah (a==b)
  |some (.struct fs),.agg xs,.agg ys=>if P.stoodInHeld t then aj else (eqFs P d xs ys fs.toList).map Ur
  |_,_,_=>aj
def eqFs (P:Program):Nat->Array Value->Array Value->List Field->Option (List Bool)
 |_,_,_,[]=>ah []
 |0,_,_,_::_=>aj
 | d+1,xs,ys,f::fs=>if f.name= "_" then aj else match Ic P (part f.type xs f.offset),Ic P (part f.type ys f.offset) with
  |some a,ah b=>match eqV P d f.type a b,eqFs P d xs ys fs with
   |some p,ah ps=>ah (p::ps)
   |_,_=>aj
  |_,_=>aj
end
def aRC:BinOp->Option Bool
 | .eql=>ah X
 | .neq=>ah U
 |_=>aj
def QX (P:Program) (o:Op) (e:Operand->Value):Option (Option Value):=
 match o with
 | .binOp op t x y _=>match aRC op with
  | some neg=>match e x,e y with
   | .agg xs,.agg ys=>ah (match Ic P (eqGuard op t x y (.agg xs)<|.agg ys),eqV P 100 t (.agg xs) (.agg ys) with
    |some _,ah b=>ah (.bool (match neg with|true=>!b|false=>b))
    |_,_=>aj)
   |_,_=>aj
  |none=>aj
 |_=>aj
def OD (P:Program) (o:Oper) (e:Operand->Value):Option Value:=
 match QX P o.op e with
 |some r=>r
 |none=>match Ic P (execOp e o) with
  |some (.value y)=>ah y
  |_=>aj
def aQ:LV->Bool
 | .ki _ _=>U
 | .bl _=>U
 | .v (.slice aj _ _)=>U
 |_=>X
def kn:Value->LV
 | Y k n=> .ki k n
 | .bool b=> .bl b
 |y=> .v y
def DY (P:Program) (G:Az) (F:List LV) (o:Oper):T LV:=
 if o.op.operands.toList.all (λx=>S5<|AL G F x) then
  match OD P o (λx=>(pl<|AL G F x).getD undef) with
  |some y=> .ok (if o.op.operands.toList.all (λx=>aQ<|AL G F x) then kn y else .v y)
  |none=> .no
 else .no
def Un (r:TypeId->Option Ty):List TypeId->Option Ty
 | []=>aj
 | [t]=>r t
 |t::ts=>match r t,Un r ts with
  |some a,ah b=>ah (.pair a b)
  |_,_=>aj
def IA (P:Program):Nat->TypeId->Option Ty
 |0,_=>aj
 |m+1,t=>match P.underlying t with
  |some (.int k)=>ah (.int k)
  |some .bool=>ah .bool
  |some .string=>ah .str
  |some (.struct fs)=>Un (IA P m) (fs.toList.map (·.type))
  |some (.array n e)=>Un (IA P m) (aq n e)
  |some (.slice e)=>(IA P m e).map .sl
  |_=>aj
def aR (e:Ty):Nat->List LV->Option (List e.D)
 |0,_=>ah []
 |n+1,cs=>match Je e (cs.take e.n),aR e n (cs.drop e.n) with
  |some d,ah r=>ah (d::r)
  |_,_=>aj
def Lc (P:Program) (t:TypeId) (len:Nat) (parts:List<|Nat×LV):T LV:=
 match P.underlying t with
 |some (.slice e)=>match IA P 8 e,Gs P e,I6 P e with
  | some ty,ah m,ah z=>if ty.n=m/\z.cells.size=m/\0<len*m/\len*m<=2^24 then
    (match KU (λi=>ah (i*m,m)) ((au<|len*m).map λi=> .v<|z.cells[i%z.cells.size]!) parts with
    |some cs=>match aR ty len cs with
     |some l=> .ok (.xl ty l)
     |none=> .no
    |none=> .no) else .no
  |_,_,_=> .no
 |_=> .no
def cX (P:Program) (t:TypeId):Bool:=
 match P.underlying t with
 |some (.slice e)=>(IA P 8 e).isSome
 |_=>X
def m8 (P:Program) (H:List AB) (t:TypeId) (len:Nat) (parts:List<|Nat×LV):T (LV×List AB):=
 match P.underlying t with
 |some (.slice e)=>match Gs P e,I6 P e with
  | some m,ah z=>if z.cells.size=m/\0<len*m/\len*m<=2^24 then
    (match KU (λi=>ah (i*m,m)) ((au<|len*m).map λi=> .v<|z.cells[i%z.cells.size]!) parts with
    |some cs=> .ok (.oc (M H) m 0 len len,H++[⟨cs,e,.cl,X⟩])
    |none=> .no) else .no
  |_,_=> .no
 |_=> .no
def m7 (P:Program) (H:List AB) (t:TypeId) (len:Nat) (parts:List<|Nat×LV):T (LV×List AB):=
 if KC H (reach H 64 (ownsL<|parts.map (·.2)) []) (parts.map (·.2)) then
  ((Fy (EB H 6)<|parts.map (·.2)).bind λ_=>Lc P t len<|parts.map λq=>(q.1,C2 H 6 q.2)).bind λy=> .ok (y,FR (reach H 64 (ownsL<|parts.map (·.2)) []) 0 H)
 else .no
def F7 (H:List AB) (e:Ty):LV->T (List e.D)
 | .os k es off n=>match H[k]? with
  |some ⟨_,_,.vec e' l,_⟩=>if e'.n=es then (match JZ e' e with
   |some ⟨h⟩=> .req (off+n<=M l) (.ok<|KW h<|(l.drop off).take n)
   |none=> .no) else .no
  |_=> .no
 |x=>match Mt e x with
  |some l=> .ok l
  |none=> .no
def aRh (P:Program) (t:TypeId):Option Nat:=(P.info? t).map (·.bytes)
def PG (P:Program) (t:TypeId):Option (TypeId×Ty×Nat×Nat):=
 match P.underlying t with
 |some (.slice e)=>match IA P 8 e,Gs P e,aRh P e with
  |some ty,ah m,ah Er=>if ty.n=m/\0<m then ah (e,ty,m,Er) else aj
  |_,_,_=>aj
 |_=>aj
def aO (P:Program) (H:List AB) (t:TypeId) (len:Nat) (parts:List<|Nat×LV):T (LV×List AB):=
 if KC H (reach H 64 (ownsL<|parts.map (·.2)) []) (parts.map (·.2)) then
  ((Fy (EB H 6)<|parts.map (·.2)).bind λ_=>Lc P t len<|parts.map λq=>(q.1,C2 H 6 q.2)).bind λy=>match P.underlying t,y with
   |some (.slice e),.xl ty l=> .ok (.os (M H) ty.n 0 len,FR (reach H 64 (ownsL<|parts.map (·.2)) []) 0 H++[⟨[],e,.vec ty l,X⟩])
   |_,_=> .no
 else .no
def aO6 (Γ:Specs) (t:TypeId):Bool:=(Γ<|1000000+t).isSome
def Te (P:Program) (H:List AB) (t:TypeId) (n c:LV):T (LV×List AB):=
 match PG P t,pl n,pl c with
 | some (e,ty,m,Er),ah (Y J n),ah (Y J c)=>match I6 P e with
  |some z=>match Je ty (z.cells.toList.map .v) with
   |some d=>if z.cells.size=m then .req (0<=n/\n<=c/\Er*c<=2^48/\c<2^63) (.ok (.os (M H) m 0 n.toNat,H++[⟨[],e,.vec ty<|aq n.toNat d,X⟩])) else .no
   |none=> .no
  |none=> .no
 |_,_,_=> .no
def Wl (P:Program) (H:List AB) (t:TypeId):T (LV×List AB):=
 match PG P t with
 |some (e,ty,m,_)=> .ok (.os (M H) m 0 0,H++[⟨[],e,.vec ty [],X⟩])
 |none=> .no
def LD (P:Program) (H:List AB) (t tx:TypeId) (x y:LV):T (LV×List AB):=
 match PG P t with
 | some (e,ty,m,Er)=>match P.underlying tx,I6 P e with
  | some (.slice _),ah z=>if z.cells.size=m then (F7 H ty y).bind (λq=>match x with
    | .v (.slice aj 0 0)=> .req ((M q:Int)*Er<=2^47/\(M q:Int)<2^62) (.ok (.os (M H) m 0<|M q,H++[⟨[],e,.vec ty q,X⟩]))
    | .os k es off n=>match H[k]? with
     |some ⟨_,bt,.vec e' l,X⟩=>match JZ e' ty with
      | some ⟨h⟩=>if es=m/\bt=e then .req (off+n=M l/\((n+M q:Nat):Int)*Er<=2^47/\((n+M q:Nat):Int)<2^62)
        (.ok (.os (M H) m 0<|n+M q,H.set k ⟨[],e,.dead,X⟩++[⟨[],e,.vec ty<|KW h (l.drop off)++q,X⟩])) else .no
      |none=> .no
     |_=> .no
    |_=> .no) else .no
  |_,_=> .no
 |none=> .no
def BC {α:Type}(q l:List α):List α:=q++l.drop (M q)
def XR (P:Program) (H:List AB) (t tx:TypeId) (x y:LV):T (LV×List AB):=
 match PG P t,P.underlying tx with
 | some (_,ty,m,_),ah (.slice _)=>match x with
  | .os k es 0 n=>match H[k]? with
   |some ⟨c,bt,.vec e' l,X⟩=>match JZ e' ty with
    |some ⟨h⟩=>if es=m then (F7 H ty y).bind λq=> .req (n=M l/\M q<=n) (.ok (.v<|Y J (M q:Int),H.set k ⟨c,bt,.vec ty<|BC q<|KW h l,X⟩)) else .no
    |none=> .no
   |_=> .no
  |_=> .no
 |_,_=> .no
def qm (P:Program) (t:TypeId) (x:LV) (lo hi:Option LV):T LV:=
 match P.underlying t with
 | some (.slice e)=>match Gs P e with
  | some (m+1)=>
   let b (o:Option LV) (d:Int):Option Int:=match o with
    |none=>ah d
    |some y=>match pl y with
     |some (.int _ n)=>ah n
     |_=>aj
   match x with
   | .xl ty l=>match b lo 0,b hi (M l:Int) with
    |some i,ah j=>if ty.n=m+1 then .req (0<=i/\i<=j/\j<=(M l:Int)) (.ok<|.xl ty<|(l.drop i.toNat).take<|j.toNat-i.toNat) else .no
    |_,_=> .no
   | .os k es off n=>match b lo 0,b hi (n:Int) with
    |some i,ah j=>if es=m+1 then .req (0<=i/\i<=j/\j<=(n:Int)) (.ok<|.os k es (off+i.toNat)<|j.toNat-i.toNat) else .no
    |_,_=> .no
   |_=> .no
  |_=> .no
 |_=> .no
def pt (P:Program) (t:TypeId) (x:LV) (lo:Option LV) (hi mx:LV):T LV:=
 match P.underlying t with
 | some (.slice e)=>match Gs P e with
  | some (m+1)=>match x with
   | .xl ty l=>match (match lo with|none=>ah 0|some y=>match pl y with|some (.int _ n)=>ah n|_=>none:Option Int),pl hi,pl mx with
    |some i,ah (.int _ j),ah (.int _ q)=>if ty.n=m+1 then .req (0<=i/\i<=j/\j<=(M l:Int)/\q=j) (.ok<|.xl ty<|(l.drop i.toNat).take<|j.toNat-i.toNat) else .no
    |_,_,_=> .no
   |_=> .no
  |_=> .no
 |_=> .no
def cB (kd:IntKind) (n:Int) (z:Value):List Int->List LV->T LV
 |k::ks,v::vs=> .br (n==k) (.ok v) (cB kd n z ks vs)
 |_,_=> .ok<|.v z
def aBU:(e:Ty)->e.D->Value
 | .int k,n=> Y k n
 | .str,s=> .string s
 | .bool,b=> .bool b
 | .sl _,_=>undef
 | .pair _ _,_=>undef
def O5:(e:Ty)->Value->Option e.D
 | .int k,v=>match v with
  | .int k' n=>if k'=k then ah n else aj
  |_=>aj
 | .str,v=>match v with
  | .string s=>ah s
  |_=>aj
 |_,_=>aj
def mC:(e:Ty)->e.D->List e.D->Bool
 | .int _,x,l=>List.contains (α:=Int) l x
 | .str,x,l=>List.contains (α:=ByteArray) l x
 |_,_,_=>X
def aK (P:Program) (t:TypeId):Option Ty:=
 match P.underlying t with
 |some (.map kt et)=>match P.underlying et,P.underlying kt,I6 P et with
  |some .bool,ah (.int k),ah (.bool X)=>ah (.int k)
  |some .bool,ah .string,ah (.bool X)=>ah .str
  |_,_,_=>aj
 |_=>aj
def aaJ (P:Program) (t:TypeId) (e:Ty) (l:List e.D) (i:LV):T LV:=
 match aK P t,pl i with
 |some e',ah v=>match JZ e' e,O5 e v with
  |some _,ah d=> .ok (.v<|.bool<|mC e d l)
  |_,_=> .no
 |_,_=> .no
def U4 (P:Program) (H:List AB) (t:TypeId) (x i:LV):T LV:=
 match P.underlying t with
 | some (.map kt et)=>match P.underlying kt,I6 P et,pl i with
  | some (.int kd),ah z,ah (.int kd' n)=>if kd'=kd/\Jh z=U then (match x with
   | .mp kd2 ks vs=>if kd2=kd/\M ks=M vs then cB kd n z ks vs else .no
   | .om k=>match H[k]? with
    |some ⟨_,_,.mp kd2 ks vs,_⟩=>if kd2=kd/\M ks=M vs then cB kd n z ks vs else .no
    |_=> .no
   |_=> .no) else .no
  |_,_,_=> .no
 |_=> .no
def bh (kd:IntKind) (n:Int) (z:Value):List Int->List LV->T LV
 |k::ks,v::vs=> .br (n==k) (.ok<|.AM [norm v,.bl U]) (bh kd n z ks vs)
 |_,_=> .ok<|.AM [.v z,.bl X]
def Wv (P:Program) (H:List AB) (t:TypeId) (x i:LV):T LV:=
 match P.underlying t with
 | some (.map kt et)=>match P.underlying kt,I6 P et,pl i with
  | some (.int kd),ah z,ah (.int kd' n)=>if kd'=kd/\Jh z=U then (match x with
   | .mp kd2 ks vs=>if kd2=kd/\M ks=M vs then bh kd n z ks vs else .no
   | .om k=>match H[k]? with
    |some ⟨_,_,.mp kd2 ks vs,_⟩=>if kd2=kd/\M ks=M vs then bh kd n z ks vs else .no
    |_=> .no
   |_=> .no) else .no
  |_,_,_=> .no
 |_=> .no
def XH (P:Program) (H:List AB) (t:TypeId) (x i:LV):T LV:=
 match x with
 | .om k=>match H[k]? with
  |some ⟨_,_,.st e l,_⟩=>aaJ P t e l i
  |_=>U4 P H t x i
 |_=>U4 P H t x i
def Ug (P:Program) (H:List AB) (t:TypeId) (x i y:LV):T (List AB):=
 match P.underlying t with
 | some (.map kt _)=>match P.underlying kt,pl i,x with
  |some (.int kd),ah (.int kd' n),.om k=>match H[k]? with
   |some ⟨_,bt,.mp kd2 ks vs,X⟩=>if kd'=kd/\kd2=kd/\M ks=M vs/\ks.contains n=X then .ok (H.set k ⟨[],bt,.mp kd (ks++[n])<|vs++[y],X⟩) else .no
   |_=> .no
  |_,_,_=> .no
 |_=> .no
def insL (P:Program) (H:List AB) (t:TypeId) (x i y:LV):T (List AB):=
 match x with
 | .om k=>match H[k]? with
  | some ⟨_,bt,.st e l,X⟩=>match aK P t,pl i,y with
   |some e',ah v,.bl U=>match JZ e' e,O5 e v with
    |some _,ah d=> .req (mC e d l=X) (.ok<|H.set k ⟨[],bt,.st e<|l++[d],X⟩)
    |_,_=> .no
   |_,_,_=> .no
  |_=>Ug P H t x i y
 |_=>Ug P H t x i y
def kindOf (P:Program) (t:TypeId):Option IntKind:=
 match P.underlying t with
 |some (.map kt _)=>match P.underlying kt with
  |some (.int kd)=>ah kd
  |_=>aj
 |_=>aj
def LC (P:Program):Nat->TypeId->Bool
 |0,_=>X
 |m+1,t=>match P.underlying t with
  |some (.int _) |some .bool|some .string=>U
  |some (.struct fs)=>fs.toList.all (λf=>LC P m f.type)
  |some (.array _ e)=>LC P m e
  |some (.tuple ts)=>ts.toList.all (LC P m)
  |_=>X
def Jk (s:ByteArray) (n:Int):Int:=(((s[n.toNat]?).getD 0).toNat:Int)
def LK (P:Program) (Γ:Specs) (H:List AB) (o:Oper) (g:FuncId) (l:List LV):T (LV×List AB):=
 match P.funcs[g]? with
 | some fn=>if fn.body.isSome&&!(fn.name== "runtime.NumGoroutine") then
   match Γ g with
   |some S=>
    if noOwnL l then (S l).bind λy=> .ok (y,H)
    else if LC P 8 o.type then ((Fy (EB H 6) l).bind λ_=>QS<|S<|l.map<|C2 H 6).bind λy=> .ok (y,H)
    else if KC H (reach H 64 (ownsL l) []) l then ((Fy (EB H 6) l).bind λ_=>S<|l.map<|C2 H 6).bind λy=> .ok (y,FR (reach H 64 (ownsL l) []) 0 H) else .no
   |none=> .no
  else .no
 |none=> .no
def gR (P:Program) (x:LV) (name:String):Option (FuncId×Value):=
 match pl x with
 |some (.iface t v)=>Ic P (method (P.types.size+Made.depth) t v name)
 |_=>aj
def Au (P:Program) (G:Az) (Γ:Specs) (F:List LV) (H:List AB) (o:Oper):T (LV×List AB):=
 match o.op with
 | .select _ _=> .no
 | .move x=> .ok (AL G F x,H)
 | .assign x=> .ok (AL G F x,H)
 | .pick c a b=>(gg (AL G F c) (AL G F a)<|AL G F b).bind λy=> .ok (y,H)
 | .alloc t=>match I6 P t with
  |some z=>match CN (.v z) with
   |some cs=> .ok (.own (M H) 0,H++[⟨cs,t,.cl,X⟩])
   |none=> .no
  |none=> .no
 | .box t x=>match CN (AL G F x) with
  |some cs=> .ok (.own (M H) 0,H++[⟨cs,t,.cl,X⟩])
  |none=> .no
 | .load t x=>(F8 P H t<|AL G F x).bind λy=> .ok (y,H)
 | .store t x y=>(TL P H t (AL G F x)<|AL G F y).bind λH'=> .ok (.v undef,H')
 | .fieldAddr s x i=>(Wj P s (AL G F x) i).bind λy=> .ok (y,H)
 | .indexAddr t x i=>(TN P t (AL G F x) (Ue<|AL G F i)<|AL G F i).bind λy=> .ok (y,H)
 | .build t parts=>(NR P t<|parts.toList.map λq=>(q.1,HZ G F q.2)).bind λy=> .ok (y,H)
 | .buildSlice t len parts=>if len=0 then (if parts.toList.isEmpty then Wl P H t else .no) else if cX P t then (if aO6 Γ t then aO P H t len (parts.toList.map λq=>(q.1,AL G F q.2)) else if noOwnL ((parts.toList.map λq=>(q.1,AL G F q.2)).map (·.2)) then (Lc P t len<|parts.toList.map λq=>(q.1,AL G F q.2)).bind λy=> .ok (y,H) else m7 P H t len (parts.toList.map λq=>(q.1,AL G F q.2))) else m8 P H t len (parts.toList.map λq=>(q.1,AL G F q.2))
 | .makeSlice t n c=>Te P H t (AL G F n) (AL G F c)
 | .slice t x lo hi aj=>match AL G F x with
  | .v _=>(DY P G F o).bind λy=> .ok (y,H)
  |_=>(qm P t (AL G F x) (lo.map<|AL G F)<|hi.map<|AL G F).bind λy=> .ok (y,H)
 | .slice t x lo (ah hi) (ah mx)=>match AL G F x with
  | .v _=>(DY P G F o).bind λy=> .ok (y,H)
  |_=>(pt P t (AL G F x) (lo.map<|AL G F) (AL G F hi)<|AL G F mx).bind λy=> .ok (y,H)
 | .makeMap t aj=>match aK P t with
  |some e=> .ok (.om<|M H,H++[⟨[],t,.st e [],X⟩])
  |none=>match kindOf P t with
   |some kd=> .ok (.om<|M H,H++[⟨[],t,.mp kd [] [],X⟩])
   |none=> .no
 | .insert t m i x=>(insL P H t (AL G F m) (AL G F i)<|AL G F x).bind λH'=> .ok (.v undef,H')
 | .mapUpdate t m i x=>(insL P H t (AL G F m) (AL G F i)<|AL G F x).bind λH'=> .ok (.v undef,H')
 | .lookup t x i X=>(XH P H t (AL G F x)<|AL G F i).bind λy=> .ok (y,H)
 | .lookup t x i U=>match AL G F x with
  | .v _=>(DY P G F o).bind λy=> .ok (y,H)
  |_=>(Wv P H t (AL G F x)<|AL G F i).bind λy=> .ok (y,H)
 | .extract x i=>match AL G F x with
  | .AM l=>match l[i]? with
   |some y=> .ok (y,H)
   |none=> .no
  |_=>(DY P G F o).bind λy=> .ok (y,H)
 | .field t x i=>match AL G F x with
  | .agg l=>(wF P t l i).bind λy=> .ok (y,H)
  |_=>(DY P G F o).bind λy=> .ok (y,H)
 | .makeFunc (.func f) first cap=>if first.toList.isEmpty then .ok (.fn f<|cap.toList.map<|AL G F,H) else if cap.toList.isEmpty then .ok (.fb f<|first.toList.map<|AL G F,H) else .no
 | .nilCheck x=>match AL G F x with
  | .own k off=> .ok (.own k off,H)
  | .op k es i j=> .ok (.op k es i j,H)
  | .xq n f=> .ok (.xq n f,H)
  | .fn f l=> .ok (.fn f l,H)
  | .fb f l=> .ok (.fb f l,H)
  |_=>(DY P G F o).bind λy=> .ok (y,H)
 | .binOp .quo t x y _=>match pl (AL G F x),pl (AL G F y) with
  |some (Y k n),ah (.int k' m)=>if k=k' then .req (m≠0) (.ok (.v<|Y k<|k.wrap<|n.tdiv m,H)) else .no
  |_,_=> .no
 | .binOp .rem t x y _=>match pl (AL G F x),pl (AL G F y) with
  |some (Y k n),ah (.int k' m)=>if k=k' then .req (m≠0) (.ok (.v<|Y k<|n.tmod m,H)) else .no
  |_,_=> .no
 | .binOp .shl t x y _=>if Ue (AL G F y) then (DY P G F o).bind λy=> .ok (y,H) else match pl (AL G F x),pl (AL G F y) with
  |some (Y k n),ah (.int _ m)=> .req (0<=m) (.ok (.v<|Y k<|k.wrap<|n*2^(min m.toNat k.bits),H))
  |_,_=> .no
 | .binOp .shr t x y _=>if Ue (AL G F y) then (DY P G F o).bind λy=> .ok (y,H) else match pl (AL G F x),pl (AL G F y) with
  |some (Y k n),ah (.int _ m)=> .req (0<=m) (.ok (.v<|Y k<|n.fdiv<|2^(min m.toNat k.bits),H))
  |_,_=> .no
 | .index t x i=>match wL (AL G F x) with
  |some l=>(aBX P t l<|AL G F i).bind λy=> .ok (y,H)
  |none=>match P.underlying t,pl<|AL G F x,pl (AL G F i) with
   |some .string,ah (.string s),ah (.int _ n)=> .req (0<=n/\n<(s.size:Int)) (.ok (.v<|Y aw<|Jk s n,H))
   |_,_,_=> .no
 | .call {callee:=.value f,args,..}=>match AL G F f with
  | .fn g cap=>LK P Γ H o g (args.toList.map (λx=>norm<|AL G F x)++cap)
  | .fb g fs=>LK P Γ H o g (fs++args.toList.map (λx=>norm<|AL G F x))
  |_=> .no
 | .call {callee:=.invoke r name,args,..}=>match gR P (AL G F r) name with
  |some (g,rv)=>LK P Γ H o g (.v rv::args.toList.map (λx=>norm<|AL G F x))
  |none=> .no
 | .call {callee:=.builtin .append,args,argTypes}=>match args.toList.map (AL G F),argTypes.toList with
  | [x,y],[t,tx]=>LD P H t tx x y
  |_,_=> .no
 | .call {callee:=.builtin .copy,args,argTypes}=>match args.toList.map (AL G F),argTypes.toList with
  | [x,y],[t,tx]=>XR P H t tx x y
  |_,_=> .no
 | .call {callee:=.builtin .len,args,argTypes}=>match args.toList.map (AL G F),(argTypes[0]?).bind P.underlying with
  | [.os _ _ _ n],ah (.slice _)=> .ok (.v<|Y J n,H)
  | [.xl _ l],ah (.slice _)=> .ok (.v<|Y J (M l:Int),H)
  | [.oc _ _ _ n _],ah (.slice _)=> .ok (.ki J n,H)
  |_,_=>(DY P G F o).bind λy=> .ok (y,H)
 |_=>(DY P G F o).bind λy=> .ok (y,H)
def As (F:List LV):Option Tmp->LV->List LV
 |some d,x=>F.set d x
 |none,_=>F
structure Hand where
 k:FuncId->List LV->List AB->T (LV×List AB)
 y:Nat->List LV->List AB->T (LV×List AB)
def Ff:Hand:=⟨λ_ _ _=> .no,λ_ _ _=> .no⟩
def ur (G:Az) (F:List LV) (o:Oper):Option (Nat×List LV):=
 match o.op with
 | .call {callee:=.value f,args,..}=>match AL G F f with
  | .CO k=>ah (k,args.toList.map λx=>norm<|AL G F x)
  |_=>aj
 |_=>aj
def callOf (G:Az) (F:List LV) (o:Oper):Option (FuncId×List LV):=
 match o.op with
 | .call {callee:=.value f,args,..}=>match AL G F f with
  | .fn g cap=>ah (g,args.toList.map (λx=>norm<|AL G F x)++cap)
  | .fb g fs=>ah (g,fs++args.toList.map (λx=>norm<|AL G F x))
  | .v (.func (.func g) ⟨[]⟩ ⟨[]⟩)=>ah (g,args.toList.map λx=>norm<|AL G F x)
  |_=>aj
 |_=>aj
def Jq (P:Program) (G:Az) (Γ:Specs) (K:Hand) (F:List LV) (H:List AB) (o:Oper):T (LV×List AB):=
 match callOf G F o with
 | some (g,l)=>match Γ g with
  |some _=>Au P G Γ F H o
  |none=>match P.funcs[g]? with
   |some fn=>if fn.body.isSome&&!(fn.name== "runtime.NumGoroutine") then K.k g l H else .no
   |none=> .no
 |none=>match ur G F o with
  |some (k,l)=>K.y k l H
  |none=>Au P G Γ F H o
def fX (ty:Ty):List LV->Option (List<|List ty.D)
 | []=>ah []
 | x::xs=>match x with
  | .xl e l=>match JZ e ty,fX ty xs with
   |some ⟨h⟩,ah r=>ah (KW h l::r)
   |_,_=>aj
  |_=>aj
def aBW (P:Program) (G:Az) (F:List LV) (H:List AB) (o o2:Oper):Option (Int×Nat×LV):=
 if o.guard.isNone&&o2.guard.isNone then
  match o.op,o.dst,o2.op with
  | .indexAddr t x i,ah d,.load t2 (.tmp d2)=>
   if d2 =d/\d<M F/\S9 P t2=ah X then
    match P.underlying t,AL G F x,AL G F i with
    | some (.array len e),.own k off,.v (.int _ n)=>
     if Gs P e=ah 1 then
      match H[k]? with
      | some b=>
       if b.Dk=U/\off+len<=M b.c then
        match (b.c.drop off).take len with
        | .xl ty l::rest=>match fX ty (.xl ty l::rest) with
         |some ls=>ah (n,len,.xl ty<|ls.getD n.toNat [])
         |none=>aj
        |_=>aj
       else aj
      |none=>aj
     else aj
    |_,_,_=>aj
   else aj
  |_,_,_=>aj
 else aj
def IB (P:Program) (G:Az) (Γ:Specs) (K:Hand) (ops:Array Oper):List Oper->List LV->List AB->T (List LV×List AB)
 | [],F,H=> .ok (F,H)
 | o::os,F,H=>
  let go (F:List LV):T (List LV×List AB):=(Jq P G Γ K F H o).bind λq=>IB P G Γ K ops os (As F o.dst q.1) q.2
  let pass (F:List LV):T (List LV×List AB):=IB P G Γ K ops os (As F o.dst<|.v undef) H
  match o.guard with
  | none=>match os with
   | []=>go F
   |o2::os2=>match aBW P G F H o o2 with
    |some (n,len,y)=> .req (0<=n/\n<(len:Int)) (IB P G Γ K ops os2 (As (As F o.dst .junk) o2.dst y) H)
    |none=>go F
  | some (j,want)=>match (ops[j]?).bind (·.dst) with
   |some d=>match F.getD d .junk with
    | .bl b=>if b=want then go F else pass F
    | .v (.bool g)=>if want then .br g (go<|F.set d<|.bl U) (pass<|F.set d<|.bl X) else .br g (pass<|F.set d<|.bl U) (go<|F.set d<|.bl X)
    | .v (.tuple _)=>pass F
    |_=> .no
   |none=> .no
def nki:LV->LV
 | .ki k n=> .v (Y k n)
 |x=>x
def TE (b:Bool):LV->LV->LV
 | .v (Y k n),.v (.int k' m)=>if k=k' then .v (Y k (if b then n else m)) else .junk
 | .bl U,.bl X=> .v (.bool b)
 | .bl X,.bl U=> .v (.bool !b)
 | .bl U,.bl U=> .bl U
 | .bl X,.bl X=> .bl X
 | .v (.bool p),.bl X=> .v (.bool<|b&&p)
 | .v (.bool p),.bl U=> .v (.bool (!b ||p))
 | .bl U,.v (.bool q)=> .v (.bool (b ||q))
 | .bl X,.v (.bool q)=> .v (.bool<|!b&&q)
 | .v (.bool p),.v (.bool q)=> .v (.bool (if b then p else q))
 |_,_=> .junk
def Wu (b:Bool) (x y:LV):LV:=TE b (nki x)<|nki y
def Oi (P:Program) (o:Oper):Bool:=
 match o.op with
 | .alloc _| .box ..| .store ..| .makeSlice ..| .makeMap ..| .insert ..| .mapUpdate ..=>X
 | .buildSlice ..=>X
 | .call {callee:=.builtin .append,..}=>X
 | .call {callee:=.builtin .copy,..}=>X
 | .call {callee:=.value _,..}=>LC P 8 o.type
 | .call {callee:=.invoke ..,..}=>LC P 8 o.type
 |_=>U
def S4 (P:Program) (Γ:Specs) (o:Oper):Bool:=
 Oi P o&&(match o.op with
 | .call {callee:=.value (.func g),..}=>(Γ g).isSome
 | .call {callee:=.value _,..}=>X
 |_=>U)
def FE (ops:List Oper):List Nat:=ops.filterMap (·.dst)
def TK (ds:List Nat) (b:Bool) (F F1 F2:List LV):List LV:=(au<|M F).map λi=>if ds.contains i then Wu b (F1.getD i .junk) (F2.getD i .junk) else F.getD i .junk
def fnX:LV->LV->Bool
 | .fn ..,.fn ..=>U
 | .fn ..,.v _=>U
 | .v _,.fn ..=>U
 |_,_=>X
def fnD (ds:List Nat) (F1 F2:List LV):Bool:=ds.any λd=>fnX (F1.getD d .junk)<|F2.getD d .junk
def KH (ds:List Nat) (F:List LV) (H:List AB):T (List LV×List AB)->T (List LV×List AB)
 | .ok x=> .ok x
 | .no=> .no
 | .req p t=> .req p (KH ds F H t)
 | .br b t e=>match KH ds F H t,KH ds F H e with
  | .ok x,.ok y=>if fnD ds x.1 y.1 then .br b (.ok x) (.ok y) else .ok (TK ds b F x.1 y.1,H)
  |t',e'=> .br b t' e'
def aBS (P:Program) (G:Az) (Γ:Specs) (K:Hand) (ops:Array Oper) (F:List LV) (H:List AB):T (List LV×List AB):=
 if ops.toList.all (S4 P Γ) then KH (FE ops.toList) F H (IB P G Γ K ops ops.toList F H) else IB P G Γ K ops ops.toList F H
def isSp (P:Program) (o:Oper):Bool:=
 match o.op with
 | .alloc _| .box ..| .store ..| .buildSlice ..| .makeSlice ..| .makeMap ..| .insert ..| .mapUpdate ..=>U
 | .call {callee:=.builtin .append,..}=>U
 | .call {callee:=.builtin .copy,..}=>U
 | .call {callee:=.value _,..}=>!LC P 8 o.type
 | .call {callee:=.invoke ..,..}=>!LC P 8 o.type
 |_=>X
def cd (sp:Oper->Bool):List Bool->List Oper->List Bool
 |fs,[]=>fs
 |fs,o::os=>cd sp (fs++[sp o ||o.after.toList.any (λe=>Region.binds .any e&&fs.getD e.on X)]) os
def akx (o:Oper):Bool:=
 match o.op with
 | .assign _=>U
 |_=>X
def MM (H:List AB) (ops:List Oper) (F:List LV):Nat->Nat->List Nat
 |0,_=>[]
 | d+1,t=>match ops.find? (λo=>o.dst==ah t&&!akx o) with
  | some o=>match o.op with
   | .fieldAddr _ (.tmp y) _=>MM H ops F d y
   | .indexAddr _ (.tmp y) _=>MM H ops F d y
   | .move (.tmp y)=>MM H ops F d y
   | .nilCheck (.tmp y)=>MM H ops F d y
   | .load _ (.tmp y)=>(MM H ops F d y).flatMap λk=>match H[k]? with
    |some b=>ownsL b.c
    |none=>[]
   |_=>[]
  |none=>match F.getD t .junk with
   | .own k _=>[k]
   | .op k _ _ _=>[k]
   | .os k _ _ _=>[k]
   | .om k=>[k]
   |_=>[]
def tracked (H:List AB) (ops:List Oper) (F:List LV):List Nat:=ops.flatMap λo=>match o.op with
 | .store _ (.tmp x) _=>MM H ops F 12 x
 | .insert _ (.tmp x) _ _=>MM H ops F 12 x
 | .mapUpdate _ (.tmp x) _ _=>MM H ops F 12 x
 | .call {callee:=.builtin .append,args,..}=>match args.toList with
  |(.tmp x)::_=>MM H ops F 12 x
  |_=>[]
 | .call {callee:=.builtin .copy,args,..}=>match args.toList with
  |(.tmp x)::_=>MM H ops F 12 x
  |_=>[]
 |_=>[]
def amf (H:List AB) (ops:List Oper) (F:List LV) (tr:List Nat) (o:Oper):Bool:=
 match o.op with
 | .load _ (.tmp x)=>(MM H ops F 12 x).any tr.contains
 |_=>X
def Qc (b:AB):AB:=
 match b.k with
 | .cl=>⟨aq (M b.c) .junk,b.t,.cl,b.p⟩
 |_=>⟨[],b.t,.dead,X⟩
def EO (tr:List Nat):Nat->List AB->List AB
 |_,[]=>[]
 |k,b::bs=>(if tr.contains k then Qc b else b)::EO tr (k+1) bs
def Wb (o:Oper):Bool:=
 match o.op with
 | .call {callee:=.value _,..}=>U
 | .call {callee:=.invoke ..,..}=>U
 |_=>X
def qQ (G:Az) (F:List LV) (tr:List Nat) (o:Oper):Bool:=
 match o.op with
 | .load _ x=>match AL G F x with
  | .own k _=>!tr.contains k
  | .op k _ _ _=>!tr.contains k
  |_=>U
 | .lookup _ x _ _=>match AL G F x with
  | .om k=>!tr.contains k
  |_=>U
 |_=>U
def aKL (t:T<|LV×List AB):T LV:=t.bind λq=> .ok q.1
def XT (P:Program) (G:Az) (Γ:Specs) (tr:List Nat) (F:List LV) (Hm:List AB) (o:Oper):T LV:=
 if isSp P o || !qQ G F tr o then .no
 else if Wb o then QS (aKL<|Au P G Γ F Hm o)
 else aKL (Au P G Γ F Hm o)
def Hk (P:Program) (G:Az) (Γ:Specs) (ops:Array Oper) (tr:List Nat) (H Hm:List AB):List Bool->List Oper->List LV->T (List LV×List AB)
 | f::fs,o::os,F=>
  if f then Hk P G Γ ops tr H Hm fs os F else
  let go (F:List LV):T (List LV×List AB):=(XT P G Γ tr F Hm o).bind λy=>Hk P G Γ ops tr H Hm fs os<|As F o.dst y
  let pass (F:List LV):T (List LV×List AB):=Hk P G Γ ops tr H Hm fs os<|As F o.dst<|.v undef
  match o.guard with
  |none=>go F
  | some (j,want)=>match (ops[j]?).bind (·.dst) with
   |some d=>match F.getD d .junk with
    | .bl b=>if b=want then go F else pass F
    | .v (.bool g)=>if want then .br g (go<|F.set d<|.bl U) (pass<|F.set d<|.bl X) else .br g (pass<|F.set d<|.bl U) (go<|F.set d<|.bl X)
    | .v (.tuple _)=>pass F
    |_=> .no
   |none=> .no
 |_,_,F=> .ok (F,H)
def EY (G:Az) (F:List LV) (o:Oper):List Nat:=
 match o.op with
 | .store _ x _=>owns (AL G F x)
 | .insert _ x _ _=>owns (AL G F x)
 | .mapUpdate _ x _ _=>owns (AL G F x)
 | .call {callee:=.builtin .append,args,..}=>match args.toList.map (AL G F) with
  |x::_=>owns x
  | []=>[]
 | .call {callee:=.builtin .copy,args,..}=>match args.toList.map (AL G F) with
  |x::_=>owns x
  | []=>[]
 |_=>[]
def CM (G:Az) (F:List LV) (tr:List Nat) (n0:Nat) (o:Oper):Bool:=(EY G F o).all λk=>tr.contains k ||an (n0<=k)
def p2x (P:Program) (G:Az) (Γ:Specs) (ops:Array Oper) (tr:List Nat) (n0:Nat):List Bool->List Oper->List LV->List AB->T (List LV×List AB)
 | f ::fs,o::os,F,H=>
  if f then
   let go (F:List LV):T (List LV×List AB):=if CM G F tr n0 o then (Au P G Γ F H o).bind λq=>p2x P G Γ ops tr n0 fs os (As F o.dst q.1) q.2 else .no
   let pass (F:List LV):T (List LV×List AB):=p2x P G Γ ops tr n0 fs os (As F o.dst<|.v undef) H
   match o.guard with
   |none=>go F
   | some (j,want)=>match (ops[j]?).bind (·.dst) with
    |some d=>match F.getD d .junk with
     | .bl b=>if b=want then go F else pass F
     | .v (.bool g)=>if want then .br g (go<|F.set d<|.bl U) (pass<|F.set d<|.bl X) else .br g (pass<|F.set d<|.bl U) (go<|F.set d<|.bl X)
     | .v (.tuple _)=>pass F
     |_=> .no
    |none=> .no
  else p2x P G Γ ops tr n0 fs os F H
 |_,_,F,H=> .ok (F,H)
def I8 (o:Oper):Bool:=
 match o.op with
 | .buildSlice ..=>U
 | .call {callee:=.value _,..}=>U
 |_=>X
def ER (o:Oper):Bool:=
 match o.op with
 | .alloc _=>U
 | .box ..=>U
 | .makeSlice ..=>U
 | .buildSlice _ len parts=>(len==0)&&parts.toList.isEmpty
 |_=>X
def Mq (o:Oper):Bool:=
 match o.op with
 | .alloc _=>U
 | .box ..=>U
 | .load ..=>U
 |_=>X
def IH (P:Program) (G:Az) (Γ:Specs) (F:List LV) (o:Oper):T LV:=
 match o.op with
 | .buildSlice t len parts=>if aO6 Γ t then .no else if noOwnL ((parts.toList.map λq=>(q.1,AL G F q.2)).map (·.2)) then Lc P t len (parts.toList.map λq=>(q.1,AL G F q.2)) else .no
 | .call {callee:=.value f,args,..}=>match AL G F f with
  | .fn g cap=>match P.funcs[g]? with
   | some fn=>if fn.body.isSome&&!(fn.name== "runtime.NumGoroutine") then
     match Γ g with
     |some S=>if noOwnL (args.toList.map (λx=>norm<|AL G F x)++cap) then S (args.toList.map (λx=>norm<|AL G F x)++cap) else .no
     |none=> .no
    else .no
   |none=> .no
  |_=> .no
 |_=> .no
def aaX (o:Oper):List Nat:=(o.after.toList.filter<|Region.binds .any).map (·.on)
def aKM:List (List Nat)->List Oper->List (List Nat)
 |acc,[]=>acc
 |acc,o::os=>aKM (acc++[(aaX o++(aaX o).flatMap (λk=>acc.getD k [])).eraseDups]) os
def aia (A:List<|List Nat) (n i:Nat):Bool:=(au n).all λj=>j==i ||(A.getD i []).contains j ||(A.getD j []).contains i
def Et (ops:Array Oper) (i:Nat) (o:Oper):Bool:=I8 o&&!aia (aKM [] ops.toList) ops.size i
def Fj (P:Program) (G:Az) (Γ:Specs) (ops:Array Oper) (i:Nat) (F:List LV) (H:List AB) (o:Oper):T (LV×List AB):=
 if Et ops i o then (IH P G Γ F o).bind λy=> .ok (y,H) else Au P G Γ F H o
def FL (P:Program) (G:Az) (Γ:Specs) (ops:Array Oper) (tr:List Nat) (n0:Nat):List Nat->List LV->List AB->T (List LV×List AB)
 | [],F,H=> .ok (F,H)
 |i::is,F,H=>match ops[i]? with
  |some o=>if o.guard.isNone&&CM G F tr n0 o then (Fj P G Γ ops i F H o).bind λq=>FL P G Γ ops tr n0 is (As F o.dst q.1) q.2 else .no
  |none=> .no
def It (o:Oper):Bool:=
 match o.op with
 | .move _=>U
 | .assign _=>U
 | .indexAddr ..=>U
 | .fieldAddr ..=>U
 | .build ..=>U
 | .extract ..=>U
 | .call {callee:=.builtin .max,..}=>U
 | .call {callee:=.builtin .min,..}=>U
 | .binOp op _ _ _ _=>(match op with
  | .add=>U
  | .sub=>U
  | .mul=>U
  |_=>X)
 |_=>X
def Jb (o:Oper):Bool:=
 match o.op with
 | .load ..=>U
 |_=>X
def gU (o:Oper):Bool:=
 match o.op with
 | .store ..=>U
 | .alloc _=>U
 | .box ..=>U
 |_=>X
def Lg (o:Oper):Bool:=
 match o.op with
 | .call {callee:=.builtin .append,..}=>U
 |_=>X
def R7 (ops:Array Oper) (i j:Nat):Bool:=
 match ops[i]?,ops[j]? with
 |some x,ah y=>x.guard.isNone&&y.guard.isNone&&((Mq x&&Et ops j y) ||(Et ops i x&&Mq y) ||(Et ops i x&&Et ops j y) ||((It x ||Jb x)&&(It y ||Jb y)) ||(It x&&gU y) ||(gU x&&It y) ||(Et ops i x&&Lg y) ||(Lg x&&Et ops j y))&&x.apart ops y
 |_,_=>X
def FX (i:Nat):List Nat->List Nat
 | []=>[]
 |j::js=>if j=i then [] else j::FX i js
def Li (ops:Array Oper):Nat->List Nat->Array Bool->Bool
 |0,R,listed=>R.isEmpty&&(ay .any ops listed).isEmpty
 |n+1,R,listed=>!(ay .any ops listed).isEmpty&&(ay .any ops listed).all λi=>R.contains i&&(FX i R).all (λj=>R7 ops i j)&&Li ops n (R.erase i) (listed.setIfInBounds i U)
def preB (ops:Array Oper) (i p:Nat):Bool:=
 match ops[i]? with
 |some o=>o.after.toList.any λe=>Region.binds .any e&&e.on==p
 |none=>X
def gd (ops:Array Oper) (R:List Nat):Nat->Nat->Nat->Bool
 |0,i,j=>preB ops i j
 |n+1,i,j=>preB ops i j ||R.any λp=>preB ops i p&&gd ops R n p j
def fF (ops:Array Oper) (R0:List Nat):List Nat->Bool
 | []=>U
 |j::R=>R.all (λi=>R7 ops i j ||gd ops R0 4 i j)&&fF ops R0 R
def aTg (ops:Array Oper) (R:List Nat) (listed:Array Bool):Bool:=R.all λi=>
 match ops[i]? with
 |some o=>o.after.toList.all λe=>!Region.binds .any e ||(listed.getD e.on X ||(FX i R).contains e.on)
 |none=>X
def mD:List Nat->Bool
 | []=>U
 |x::l=>!l.contains x&&mD l
def lu (ops:Array Oper) (R:List Nat) (listed:Array Bool):Bool:=
 mD R&&(listed.size==ops.size&&((au ops.size).all (λi=>R.contains i==!listed.getD i U)&&(R.all (λi=>an<|i<ops.size)&&(fF ops R R&&aTg ops R listed))))
def Wi (ops:Array Oper) (flags:List Bool):Bool:=letI a:=TI (idxs X flags 0)<|Array.replicate ops.size X;letI b:=idxs U flags 0;TP ops flags&&(lu ops b a ||Li ops (M b) b a)
def Fx:AB:=⟨[],0,.dead,X⟩
def J1 (P:Program) (G:Az) (F:List LV) (H:List AB) (k:Nat) (o:Oper):T (LV×List AB):=
 match o.op with
 | .alloc t=>match I6 P t with
  |some z=>match CN (.v z) with
   |some cs=> .ok (.own k 0,H.set k ⟨cs,t,.cl,X⟩)
   |none=> .no
  |none=> .no
 | .box t x=>match CN (AL G F x) with
  |some cs=> .ok (.own k 0,H.set k ⟨cs,t,.cl,X⟩)
  |none=> .no
 | .makeSlice t n c=>match PG P t,pl<|AL G F n,pl (AL G F c) with
  | some (e,ty,m,Er),ah (Y J n),ah (Y J c)=>match I6 P e with
   |some z=>match Je ty (z.cells.toList.map .v) with
    |some d=>if z.cells.size=m then .req (0<=n/\n<=c/\Er*c<=2^48/\c<2^63) (.ok (.os k m 0 n.toNat,H.set k ⟨[],e,.vec ty<|aq n.toNat d,X⟩)) else .no
    |none=> .no
   |none=> .no
  |_,_,_=> .no
 | .buildSlice t len parts=>if len=0 then (if parts.toList.isEmpty then (match PG P t with
  |some (e,ty,m,_)=> .ok (.os k m 0 0,H.set k ⟨[],e,.vec ty [],X⟩)
  |none=> .no) else .no) else .no
 |_=> .no
def ams (ops:Array Oper) (t:Tmp):Option Nat:=(au ops.size).find? λi=>match ops[i]? with
 |some o=>o.dst==ah t
 |none=>X
def apD (ops:Array Oper) (o:Oper):Option Nat:=
 match o.op with
 | .call {callee:=.builtin .append,args,..}=>(match args.toList with
  | .tmp t::_=>ams ops t
  |_=>aj)
 |_=>aj
def apK (d n0:Nat):List LV->Bool
 | [.os k _ _ _,.xl _ _]=>k==n0+d
 |_=>X
def LX (G:Az) (ops:Array Oper) (n0:Nat) (F:List LV) (H:List AB) (o:Oper):Bool:=
 match o.op with
 | .call {callee:=.builtin .append,args,..}=>(match apD ops o with
  |some d=>an (n0+ops.size<=M H)&&apK d n0 (args.toList.map<|AL G F)
  |none=>X)
 |_=>X
def Pa (o:Oper):Bool:=
 match o.op with
 | .store ..=>U
 | .move _=>U
 | .assign _=>U
 | .build ..=>U
 |_=>X
def Hl (P:Program) (G:Az) (Γ:Specs) (ops:Array Oper) (n0 i:Nat) (F:List LV) (H:List AB) (o:Oper):T (LV×List AB):=
 if ER o then J1 P G F H (n0+i) o else if Pa o then Au P G Γ F H o else if LX G ops n0 F H o then Au P G Γ F H o else .no
def Fp (P:Program) (G:Az) (Γ:Specs) (ops:Array Oper) (tr:List Nat) (n0:Nat):List Nat->List LV->List AB->T (List LV×List AB)
 | [],F,H=> .ok (F,H)
 |i::is,F,H=>match ops[i]? with
  |some o=>if o.guard.isNone&&CM G F tr n0 o then (Hl P G Γ ops n0 i F H o).bind λq=>Fp P G Γ ops tr n0 is (As F o.dst q.1) q.2 else .no
  |none=> .no
def Ix (o:Oper):Bool:=
 match o.op with
 | .move _=>U
 | .assign _=>U
 | .build ..=>U
 |_=>X
def gu (ops:Array Oper) (i j:Nat):Bool:=
 match ops[i]?,ops[j]? with
 |some x,ah y=>!(i==j)&&x.guard.isNone&&y.guard.isNone&&(((ER x ||Ix x)&&(ER y ||Ix y)) ||((ER x ||Ix x)&&(Lg y&&!(apD ops y==ah i))) ||((Lg x&&!(apD ops x==ah j))&&(ER y ||Ix y)))&&x.apart ops y
 |_,_=>X
def aN (ops:Array Oper):Nat->List Nat->Array Bool->Bool
 |0,R,listed=>R.isEmpty&&(ay .any ops listed).isEmpty
 |n+1,R,listed=>!(ay .any ops listed).isEmpty&&(ay .any ops listed).all λi=>R.contains i&&(FX i R).all (λj=>gu ops i j)&&aN ops n (R.erase i) (listed.setIfInBounds i U)
def P1:List Nat->Bool
 | []=>U
 |k::ks=>!ks.contains k&&P1 ks
def alx (ops:Array Oper) (flags:List Bool):Bool:=letI a:=idxs U flags 0;TP ops flags&&P1 a&&a.all (λi=>an<|i<ops.size)&&aN ops (M a) a (TI (idxs X flags 0)<|Array.replicate ops.size X)
def pux (P:Program) (G:Az) (Γ:Specs) (F:List LV) (o:Oper):T LV:=
 match o.op with
 | .move x=> .ok (AL G F x)
 | .assign x=> .ok (AL G F x)
 | .pick c a b=>gg (AL G F c) (AL G F a) (AL G F b)
 | .load t x=>(match AL G F x with
  | .xq m f=>F8 P [] t (.xq m f)
  |_=> .no)
 | .fieldAddr s x i=>Wj P s (AL G F x) i
 | .indexAddr t x i=>TN P t (AL G F x) (Ue<|AL G F i) (AL G F i)
 | .build t parts=>NR P t (parts.toList.map λq=>(q.1,HZ G F q.2))
 | .buildSlice ..=>IH P G Γ F o
 | .call {callee:=.value _,..}=>IH P G Γ F o
 | .unOp ..=>DY P G F o
 | .binOp op _ _ _ _=>(match op with
  | .quo=> .no
  | .rem=> .no
  | .shl=> .no
  | .shr=> .no
  |_=>DY P G F o)
 |_=> .no
def zO (G:Az) (F:List LV) (o:Oper):Bool:=
 match o.op with
 | .load _ x=>(match AL G F x with
  | .own _ _=>U
  |_=>X)
 |_=>U
def spz (P:Program) (G:Az) (Γ:Specs) (F:List LV) (H:List AB) (o:Oper):T (LV×List AB):=if zO G F o then Au P G Γ F H o else .no
def Gk (P:Program) (G:Az) (Γ:Specs) (ops:Array Oper) (tr:List Nat) (n0:Nat):List Nat->List LV->List AB->T (List LV×List AB)
 | [],F,H=> .ok (F,H)
 |i::is,F,H=>match ops[i]? with
  |some o=>if o.guard.isNone&&CM G F tr n0 o then (spz P G Γ F H o).bind λq=>Gk P G Γ ops tr n0 is (As F o.dst q.1) q.2 else .no
  |none=> .no
def Uf (P:Program) (o:Oper):Bool:=
 match o.op with
 | .call {callee:=.builtin .append,..}=>U
 | .buildSlice t len _=>an (len=0) ||cX P t
 |_=>X
def gr (P:Program) (ops:Array Oper) (i j:Nat):Bool:=
 match ops[i]?,ops[j]? with
 |some x,ah y=>x.guard.isNone&&y.guard.isNone&&(Jb x&&Uf P y)&&x.apart ops y
 |_,_=>X
def aM (P:Program) (ops:Array Oper):Nat->List Nat->Array Bool->Bool
 |0,R,listed=>R.isEmpty&&(ay .any ops listed).isEmpty
 |n+1,R,listed=>!(ay .any ops listed).isEmpty&&(ay .any ops listed).all λi=>R.contains i&&(FX i R).all (λj=>gr P ops i j)&&aM P ops n (R.erase i) (listed.setIfInBounds i U)
def aGn (ops:Array Oper) (i:Nat):List Nat->List Nat
 | []=>[i]
 |j::js=>if preB ops j i then i::j::js else j::aGn ops i js
def U5 (ops:Array Oper):List Nat->List Nat
 | []=>[]
 |i::is=>if (ops[i]?).any Jb then aGn ops i (U5 ops is) else i::U5 ops is
def fR (P:Program) (ops:Array Oper) (flags:List Bool):Bool:=letI a:=idxs U flags 0;TP ops flags&&((U5 ops a).all (λi=>flags.getD i X)&&aM P ops (M a) (U5 ops a) (TI (idxs X flags 0)<|Array.replicate ops.size X))
def iB (P:Program) (G:Az) (Γ:Specs) (ops:Array Oper) (F:List LV) (H:List AB):T (List LV×List AB):=
 let tr:=tracked H ops.toList F
 let flags:=cd (λo=>isSp P o ||amf H ops.toList F tr o) [] ops.toList
 if gw ops flags&&P.follows .mixedOrders&&tr.all (λk=>an<|k<M H) then
  (KH (FE ops.toList) F H<|Hk P G Γ ops tr H (EO tr 0 H) flags ops.toList F).bind λq=>p2x P G Γ ops tr (M H) flags ops.toList q.1 H
 else if (Wi ops flags ||fR P ops flags)&&P.follows .mixedOrders&&tr.all (λk=>an<|k<M H) then
  (KH (FE ops.toList) F H<|Hk P G Γ ops tr H (EO tr 0 H) flags ops.toList F).bind λq=>if Wi ops flags then FL P G Γ ops tr (M H) (idxs U flags 0) q.1 H else Gk P G Γ ops tr (M H) (U5 ops<|idxs U flags 0) q.1 H
 else if alx ops flags&&P.follows .mixedOrders&&tr.all (λk=>an<|k<M H) then
  (KH (FE ops.toList) F H<|Hk P G Γ ops tr H (EO tr 0 H) flags ops.toList F).bind λq=>Fp P G Γ ops tr (M H) (idxs U flags 0) q.1<|H++aq ops.size Fx
 else .no
def aGF (ops:List Oper) (s:Nat):Nat:=
 match ops.find? (λo=>o.dst==ah s) with
 |some o=>match o.op with
  | .move (.tmp y)=>y
  |_=>s
 |none=>s
def isApp (o:Oper):Bool:=
 match o.op with
 | .call {callee:=.builtin .append,..}=>U
 |_=>X
def pj (P:Program) (ops:List Oper) (F:List LV):Option (Nat×IntKind×Int×Nat):=
 if ops.any isApp then
  ops.findSome? λo=>match o.op with
   | .indexAddr t _ (.tmp s)=>match P.underlying t with
    |some (.array len e)=>match P.underlying e,F.getD (aGF ops s) .junk with
     |some (.slice _),.v (Y k n)=>ah (aGF ops s,k,n,len)
     |_,_=>aj
    |_=>aj
   |_=>aj
 else aj
def splitN {α:Type}(f:Nat->T α) (n:Int):Nat->Nat->T α
 |0,_=> .no
 |1,j=>f j
 |m+2,j=> .br (n==(j:Int)) (f j)<|splitN f n (m+1)<|j+1
def XP (P:Program) (G:Az) (Γ:Specs) (ops:Array Oper) (F:List LV) (H:List AB):T (List LV×List AB):=
 match pj P ops.toList F with
 |some (s,k,n,len)=> .req (0<=n/\n<(len:Int)) (splitN (λj=>iB P G Γ ops (F.set s<|.ki k j) H) n len 0)
 |none=>iB P G Γ ops F H
def nv (G:Az) (Γ:Specs) (ops:Array Oper):Option Oper:=
 match ops.back? with
 | some o=>match callOf G [] o with
  |some (g,_)=>match Γ g with
   |some _=>aj
   |none=>if lastB .any ops.pop o then ah o else aj
  |none=>aj
 |none=>aj
def gq (P:Program) (G:Az) (Γ:Specs) (K:Hand) (ops:Array Oper) (F:List LV) (H:List AB):T (List LV×List AB):=
 match nv G Γ ops with
 |some o=>(XP P G Γ ops.pop F H).bind λq=>(Jq P G Γ K q.1 q.2 o).bind λq2=> .ok (As q.1 o.dst q2.1,q2.2)
 |none=>XP P G Γ ops F H
def hwx (P:Program) (G:Az) (Γ:Specs) (F:List LV) (H:List AB) (o:Oper):T LV:=
 match o.op with
 | .call _=>IH P G Γ F o
 | .move x=> .ok (AL G F x)
 | .assign x=> .ok (AL G F x)
 | .load t x=>F8 P H t (AL G F x)
 | .fieldAddr s x i=>Wj P s (AL G F x) i
 | .nilCheck x=>match AL G F x with
  | .own k off=> .ok (.own k off)
  | .op k es i j=> .ok (.op k es i j)
  | .xq n f=> .ok (.xq n f)
  |_=> .no
 | .binOp op _ _ _ _=>match op with
  | .add=>DY P G F o
  | .sub=>DY P G F o
  | .mul=>DY P G F o
  |_=> .no
 |_=> .no
def aJe (G:Az) (Γ:Specs) (ops:Array Oper):Option Nat:=(au ops.size).find? λi=>
 match ops[i]? with
 |some o=>(match callOf G [] o with
  |some (g,_)=>(Γ g).isNone
  |none=>X)
 |none=>X
def OF (ops:Array Oper) (i:Nat):List Nat:=
 match ops[i]? with
 |some o=>(o.after.toList.filter<|Region.binds .any).map (·.on)
 |none=>[]
def GV (ops:Array Oper) (i:Nat):List Nat:=Tw .any ops ops.size<|OF ops i
def FW (ops:Array Oper) (i:Nat):Option Tmp:=(ops[i]?).bind (·.dst)
def NM (ops:Array Oper) (i:Nat):List Tmp:=
 match ops[i]? with
 |some o=>o.looksAt ops
 |none=>[]
def Qb (ops:Array Oper) (w:Nat):List Nat:=(au ops.size).filter λi=>!(i==w)&&!(GV ops i).contains w
def allA (ops:Array Oper) (w i:Nat):Bool:=(Qb ops w).all λj=>(GV ops i).contains j
def Qz (ops:Array Oper) (w:Nat):List Nat:=(au ops.size).filter λi=>!(i==w)&&((GV ops i).contains w&&!allA ops w i)
def JU (ops:Array Oper) (w:Nat):List Nat:=(au ops.size).filter λi=>!(i==w)&&((GV ops i).contains w&&allA ops w i)
def gn (ops:Array Oper) (w:Nat):List Nat:=Qb ops w++([w]++Qz ops w)
def aaN (ops:Array Oper) (i j:Nat):Bool:=
 match FW ops j with
 |some d=>(i==j || !(FW ops i==ah d))&&(!(NM ops i).contains d ||(!(i==j)&&an (j<i)&&(GV ops i).contains j))
 |none=>X
def aQt (ops:Array Oper) (i j:Nat):Bool:=
 match FW ops j with
 |some d=>!(NM ops i).contains d
 |none=>X
def okW (ops:Array Oper) (w n:Nat):Bool:=
 let AW:=gn ops w
 AW.all (λi=>(match ops[i]? with|some o=>o.guard.isNone|none=>X)&&(match FW ops i with|some d=>an (d<n) |none=>X)&&
  (OF ops i).all (λp=>an (p<i)&&AW.contains p)&&AW.all (λj=>aaN ops i j))&&
 ((JU ops w).all (λb=>AW.all λi=>(GV ops b).contains i)&&(Qb ops w++[w]).all λi=>([w]++Qz ops w).all λj=>aQt ops i j)
def goW (P:Program) (G:Az) (Γ:Specs) (ops:Array Oper) (H:List AB):List Nat->List LV->T (List LV)
 | [],F=> .ok F
 |i::is,F=>match ops[i]? with
  |some o=>(hwx P G Γ F H o).bind λy=>goW P G Γ ops H is (As F o.dst y)
  |none=> .no
def aS (P:Program) (G:Az) (Γ:Specs) (ops:Array Oper) (H:List AB) (F:List LV):List Nat->T Unit
 | []=> .ok ()
 | i::is=>match ops[i]? with
  |some o=>(match o.op with
   | .load _ _=>(hwx P G Γ F H o).bind λy=> .req (y=(match o.dst with|some d=>F.getD d .junk|none=> .junk)) (aS P G Γ ops H F is)
   |_=>aS P G Γ ops H F is)
  |none=> .no
def KA (ops:Array Oper) (w:Nat):Array Bool:=((au ops.size).map λi=>(gn ops w).contains i).toArray
def aTh (ops:Array Oper):Nat->Array Bool->List Nat
 |0,_=>[]
 |n+1,l=>match ay .any ops l with
  | []=>[]
  |i::_=>i::aTh ops n (l.setIfInBounds i U)
def Iw (ops:Array Oper) (w:Nat):List Nat:=aTh ops (M<|JU ops w)<|KA ops w
def zz (P:Program) (G:Az) (Γ:Specs) (K:Hand) (ops:Array Oper) (w:Nat) (F:List LV) (H:List AB):T (List LV×List AB):=
 if okW ops w (M F)&&P.follows .mixedOrders&&(M (Iw ops w)==M (JU ops w))&&(lu ops (Iw ops w) (KA ops w) ||Li ops (M<|Iw ops w) (Iw ops w) (KA ops w)) then
  match ops[w]? with
  |some o=>(goW P G Γ ops H (Qb ops w) F).bind λF1=>(Jq P G Γ K F1 H o).bind λq=>(aS P G Γ ops q.2 F1<|(Qb ops w).filter λi=>!(GV ops w).contains i).bind λ_=>(goW P G Γ ops q.2 (Qz ops w)<|As F1 o.dst q.1).bind λF3=>FL P G Γ ops [] (M q.2) (Iw ops w) F3 q.2
  |none=> .no
 else .no
def zy (P:Program) (G:Az) (Γ:Specs) (K:Hand) (ops:Array Oper) (F:List LV) (H:List AB):T (List LV×List AB):=
 match nv G Γ ops with
 |some _=>gq P G Γ K ops F H
 |none=>match aJe G Γ ops with
  |some w=>zz P G Γ K ops w F H
  |none=>gq P G Γ K ops F H
def GP:Code->Nat
 | .region id _ _=>id
 | .seq a _=>GP a
 | .block _ b=>GP b
 | .loop b=>GP b
 | .cond _ a _=>GP a
 |_=>0
abbrev LM:=Nat->List LV->List AB->T (Ex×List LV×List AB)
abbrev Qh:=Code->List LV->List AB->T (Ex×List LV×List AB)
def Ll (L:LM):Qh:=λb=>L<|GP b
def uQ:Option AB->Option Ex
 |some ⟨_,_,.Cg _ _ _ .ready,X⟩=>ah .normal
 |some ⟨_,_,.Cg _ _ _ (.done x),X⟩=>match x with
  | .normal=>aj
  |x=>ah x
 |_=>aj
def aBF:Operand->List Nat
 | .tmp t=>[t]
 |_=>[]
def Ga:Code->List Nat
 | .region _ ops _=>ops.toList.flatMap λo=>o.op.operands.toList.flatMap aBF
 | .seq a b=>Ga a++Ga b
 | .cond c a b=>aBF c++Ga a++Ga b
 | .block _ b=>Ga b
 | .loop b=>Ga b
 | .rangeFunc f _ a b=>aBF f++Ga a++Ga b
 | .scope b=>Ga b
 |_=>[]
def PC (us:List Nat) (F:List LV):List LV:=(au<|M F).map λi=>if us.contains i then F.getD i .junk else .junk
def D7 (P:Program) (G:Az) (Γ:Specs) (K:Hand) (L:Qh):Code->List LV->List AB->T (Ex×List LV×List AB)
 | .skip,F,H=> .ok (.normal,F,H)
 | .ret,F,H=> .ok (.ret,F,H)
 | .exit n,F,H=> .ok (.exit n,F,H)
 | .region _ ops d,F,H=>(if d then zy P G Γ K ops F H else aBS P G Γ K ops F H).bind λq=> .ok (.normal,q.1,q.2)
 | .seq a b,F,H=>(D7 P G Γ K L a F H).bind λq=>match q.1 with
  | .normal=>D7 P G Γ K L b q.2.1 q.2.2
  |x=> .ok (x,q.2)
 | .cond c a b,F,H=>match c with
  | .tmp d=>match F.getD d .junk with
   | .bl U=>D7 P G Γ K L a F H
   | .bl X=>D7 P G Γ K L b F H
   | .v (.bool g)=> .br g (D7 P G Γ K L a (F.set d<|.bl U) H) (D7 P G Γ K L b (F.set d<|.bl X) H)
   |_=> .no
  | .const (.bool U)=>D7 P G Γ K L a F H
  | .const (.bool X)=>D7 P G Γ K L b F H
  |_=> .no
 | .block id a,F,H=>(D7 P G Γ K L a F H).bind λq=>match q.1 with
  | .exit n=>if n=id then .ok (.normal,q.2) else .ok (.exit n,q.2)
  |x=> .ok (x,q.2)
 | .loop a,F,H=>L a F H
 | .scope a,F,H=>D7 P G Γ K L a F H
 | .label _,F,H=> .ok (.normal,F,H)
 | .rangeFunc f ps asg body,F,H=>match AL G F f with
  | .fn g cap=>match P.funcs[g]? with
   | some fn=>if fn.body.isSome&&!(fn.name== "runtime.NumGoroutine") then
     (K.k g (.CO H.length::cap)<|H++[⟨PC (Ga asg++Ga body) F,0,.Cg ps asg body .ready,X⟩]).bind λq=>match uQ q.2[H.length]? with
      |some x=> .ok (x,F,q.2.set H.length ⟨[],0,.dead,X⟩)
      |none=> .no
    else .no
   |none=> .no
  |_=> .no
 |_,_,_=> .no
def S2 (P:Program) (fn:Func) (F:List LV) (H:List AB):List ResultVar->T (List LV)
 | []=> .ok []
 | .tmp t::rs=>(S2 P fn F H rs).bind λl=> .ok (norm (F.getD t .junk)::l)
 | .cell a t::rs=>(F8 P H t<|F.getD a .junk).bind λy=>(S2 P fn F H rs).bind λl=> .ok (y::l)
def one (l:List LV):LV:=match l with| [x]=>x|l=>Qx l
def wH (P:Program) (fn:Func) (t:List LV->List AB->T (Ex×List LV×List AB)) (args:List LV):T LV:=
 (t (args++aq (fn.ntmps-M args) (.v undef)) []).bind λq=>match q.1 with
  | .exit _=> .no
  |_=>(S2 P fn q.2.1 q.2.2 fn.results.toList).bind λl=>if noOwn (one l) then .ok (one l) else (EB q.2.2 8<|one l).bind λ_=> .ok<|C2 q.2.2 8<|one l
def wE (P:Program) (G:Az) (Γ:Specs) (K:Hand) (L:LM) (fn:Func) (args:List LV):T LV:=
 match fn.body with
 |some c=>wH P fn (D7 P G Γ K (Ll L) c) args
 |none=> .no
def D6:List (FuncId×(List LV->T LV))->Specs
 | [],_=>aj
 |p::ps,g=>if g=p.1 then ah p.2 else D6 ps g
def Ag:LM:=λ_ _ _=> .no
def dJ:Qh:=λ_ _ _=> .no
def He:Code->Bool
 | .seq a b=>He a&&He b
 | .cond _ a b=>He a&&He b
 | .block _ b=>He b
 | .loop b=>He b
 | .rangeFunc ..=>X
 | .scope b=>He b
 |_=>U
def qf (t:List LV->List AB->T (Ex×List LV×List AB)):Nat->List LV->List AB->T (Ex×List LV×List AB)
 |0,_,_=> .no
 |m+1,F,H=>(t F H).bind λq=>match q.1 with
  | .normal=>qf t m q.2.1 q.2.2
  |x=> .ok (x,q.2)
def Iu (P:Program) (G:Az) (Γ:Specs) (K:Hand) (m:Nat):Nat->Qh
 |0=>dJ
 |d+1=>λb=>qf (D7 P G Γ K (Iu P G Γ K m d) b) m
def XL (F:List LV):List Tmp->List LV->List LV
 |t::ts,x::xs=>XL (F.set t x) ts xs
 |_,_=>F
abbrev DE:=Hand->FuncId->Nat->Qh
def EP (P:Program) (G:Az) (Γ:Specs) (LL:DE) (K:Hand):Hand:=
 ⟨λg args H=>match P.funcs[g]? with
  | some fn=>match fn.body with
   |some c=>(D7 P G Γ K (LL K g<|M H) c (args++aq (fn.ntmps-M args) (.v undef)) H).bind λq=>match q.1 with
    | .exit _=> .no
    |_=>(S2 P fn q.2.1 q.2.2 fn.results.toList).bind λl=> .ok (one l,q.2.2)
   |none=> .no
  |none=> .no,
  λk args H=>match H[k]? with
  | some ⟨F,t,.Cg ps asg body .ready,X⟩=>if M args=ps.size/\He asg=U/\He body=U then
    (D7 P G Γ K dJ asg (XL F ps.toList args) H).bind λ(q:Ex×List LV×List AB)=>match q.1 with
     | .normal=>(match q.2.2[k]? with
      | some ⟨F1,_,.Cg ps1 asg1 body1 .ready,X⟩=>(D7 P G Γ K (Iu P G Γ K 20 2) body q.2.1<|q.2.2.set k ⟨F1,t,.Cg ps1 asg1 body1 .busy,X⟩).bind λ(r:Ex×List LV×List AB)=>match r.2.2[k]? with
       |some ⟨F2,_,.Cg ps2 asg2 body2 .busy,X⟩=>(match r.1 with
        | .normal=> .ok (.bl U,r.2.2.set k ⟨F2,t,.Cg ps2 asg2 body2 .ready,X⟩)
        |x=> .ok (.bl X,r.2.2.set k ⟨F2,t,.Cg ps2 asg2 body2<|.done x,X⟩))
       |_=> .no
      |_=> .no)
     |_=> .no
   else .no
  |_=> .no⟩
def inl (P:Program) (G:Az) (Γ:Specs) (LL:DE):Nat->Hand
 |0=>Ff
 |d+1=>EP P G Γ LL<|inl P G Γ LL d
abbrev Does:=FuncId->Option (List LV->List AB->T (LV×List AB))
def Uh (P:Program) (G:Az) (Γ:Specs) (LL:DE) (C:Does):Nat->Hand
 |0=>Ff
 |d+1=>⟨λg args H=>match C g with
  |some m=>m args H
  |none=>(EP P G Γ LL<|Uh P G Γ LL C d).k g args H,(EP P G Γ LL<|Uh P G Γ LL C d).y⟩
structure Gz where
 z:Nat->Prop
 gh:List (LV×Value)
 Ck:List Nat
variable {P : Program} {G : Az} {Γ : Specs} {β : Nat -> Loc} {Z : Nat -> Prop} {Z0 : Gz} {w w0 : World} {F : List LV} {H : List AB} {a : Act} {ds : List Deferred}
theorem Cf {x:LV}{y z:Value}(h:pl x=ah y) (hr:R β Z w x z):z=y:=by
 cases x with
 |v q=>simp only [pl,Af] at h;simp only [R] at hr;rw [hr,h]
 |bl b=>simp only [pl,Af] at h;simp only [R] at hr;rw [hr,h]
 |ki k n=>simp only [pl,Af] at h;simp only [R] at hr;rw [hr,h]
 | fn f l=>
  cases l with
  |nil=>
   simp only [pl,Af] at h;simp only [R,RL] at hr;obtain ⟨ys,h1,h2⟩:=hr
   have:ys=#[]:=A8
   grind
  |cons _ _=>simp [pl] at h
 |_=>simp [pl] at h
def aKP {x:LV}{y:Value}(h:pl x=ah y):R β Z w x y:=by
 cases x with
 |v q=>simp only [pl,Af] at h;simp only [R];exact h.symm
 |bl b=>simp only [pl,Af] at h;simp only [R];exact h.symm
 |ki k n=>simp only [pl,Af] at h;simp only [R];exact h.symm
 |fn f l=>
  cases l with
  |nil=>simp only [pl,Af] at h;simp only [R,RL];exact ⟨#[],h.symm,rfl⟩
  |cons _ _=>simp [pl] at h
 |_=>simp [pl] at h
def aP1:∀ {l:List LV}{ys zs:List Value},Ay l=ah ys->RL β Z w l zs->zs=ys
 | [],ys,zs,h,hr=>by simp only [Ay,Af] at h;simp only [RL] at hr;rw [hr,h]
 | x::xs,ys,zs,h,hr=>by
  simp only [Ay] at h;split at h
  ·rename_i y ys' h1 h2
   simp only [Af] at h;obtain ⟨y',zs',e1,e2,e3⟩:=hr;rw [e1,Cf h1 e2,aP1 h2 e3,h]
  ·cases h
def Ov {x:LV}{y:Value}(h:R β Z w x y):R β Z w (norm x) y:=yJ
def T6 {n:Nat}{x:LV}(h:okV n x):okV n (norm x):=yJ
theorem aE9:∀ {l:List LV}{ys:List Value},RL β Z w l ys->RL β Z w (l.map norm) ys
 | [],_,h=>A8
 |x::xs,ys,h=>by
  obtain ⟨y,zs,h1,h2,h3⟩:=h;exact ⟨y,zs,h1,Ov h2,aE9 h3⟩
def ot {n:Nat}:∀ {l:List LV},AS n l->AS n (l.map norm)
 | [],_=>trivial
 |x::xs,h=>by
  exact ⟨T6 h.1,ot h.2⟩
def Vr {l:List LV}{ys:Array Value}(h:RL β Z w l ys.toList):R β Z w (JV l) (.agg ys):=by
 unfold JV;exact aLs
def qC {l:List LV}{ys:Array Value}(h:RL β Z w l ys.toList):R β Z w (Qx l) (.tuple ys):=by
 unfold Qx;exact aLs
def QH {n:Nat}{l:List LV}(h:AS n l):okV n (JV l):=by
 unfold JV;split
 ·trivial
 ·simpa only [okV] using ot h
def ox {n:Nat}{l:List LV}(h:AS n l):okV n (Qx l):=by
 unfold Qx;split
 ·trivial
 ·simpa only [okV] using ot h
def TS (n:Nat):∀(l:List Value),AS n (l.map .v)
 | []=>trivial
 |_::xs=>⟨ak,TS n xs⟩
def UY:∀(l:List Value),RL β Z w (l.map .v) l
 | []=>aE
 |x::xs=>by simp only [E8,RL,R];exact ⟨x,xs,rfl,rfl,UY xs⟩
def aCu {x:LV}{y:Value}(h:WK x=U) (hr:R β Z w x y):Jh y=true:=by
 cases x with
 |v q=>simp only [R] at hr;rw [hr];exact h
 |bl b=>simp only [R] at hr;rw [hr];rfl
 |ki k n=>simp only [R] at hr;rw [hr];rfl
 |own k off=>simp only [R] at hr;rw [hr];rfl
 |fn f l=>simp only [R] at hr;obtain ⟨ys,h1,_⟩:=hr;rw [h1];rfl
 |fb f l=>simp only [R] at hr;obtain ⟨ys,h1,_⟩:=hr;rw [h1];rfl
 |xq n f=>simp only [R] at hr;obtain ⟨b,off,h1,_⟩:=hr;rw [h1];rfl
 |os k es off n=>
  simp only [R] at hr;split at hr
  ·rw [hr.2.2];rfl
  ·obtain ⟨_,a,h1,_⟩:=hr;rw [h1];rfl
 |op k es i j=>simp only [R] at hr;rw [hr.2];rfl
 |om k=>simp only [R] at hr;rw [hr];rfl
 |mp kd ks vs=>simp only [R] at hr;obtain ⟨r,es,c,h1,_⟩:=hr;rw [h1];rfl
 |oc k es off n c=>simp only [R] at hr;obtain ⟨_,a,h1,_⟩:=hr;rw [h1];rfl
 |CO k=>simp only [R] at hr;rw [hr];rfl
 |xl e l=>simp only [R] at hr;obtain ⟨b,off,h1,_⟩:=hr;rw [h1];rfl
 |agg l=>simp [WK] at h
 |AM l=>simp [WK] at h
 |junk=>simp [WK] at h
def afZ {y:Value}(h:Jh y=U):y.cells=#[y]:=by cases y<;>first|rfl|(simp [Jh] at h)
theorem nr {x:LV}{y:Value}{cs:List LV}(h:CN x=ah cs) (hr:R β Z w x y):RL β Z w cs y.cells.toList/\(∀z∈y.cells.toList,Jh z=U):=by
 have single:∀x:LV,WK x=U->R β Z w x y->RL β Z w [x] y.cells.toList/\(∀z∈y.cells.toList,Jh z=U):=λx hx hr=>by
  have h1:=aCu hx hr
  rw [afZ h1];refine ⟨?_,?_⟩
  ·simp only [RL];exact ⟨y,[],rfl,hr,rfl⟩
  ·intro z hz
   grind
 cases x with
 | v q=>
  simp only [CN] at h;split at h
  ·rename_i ha
   simp only [Af] at h;subst h hr;exact ⟨UY _,λz hz=>BR.1 ha z hz⟩
  ·cases h
 | agg l=>
  simp only [CN] at h;split at h
  ·rename_i ha
   simp only [Af] at h;obtain ⟨ys,h1,h2⟩:=hr;subst h h1;refine ⟨h2,λz hz=>?_⟩
   obtain ⟨i,hi,hz'⟩:=I0.1 hz
   have hlen:=RL.length h2
   have hl:l[i]? =ah (l[i]'(by simp only [Value.cells] at hi;omega)):=DR _
   obtain ⟨y',e1,e2⟩:=RL.get i _ h2 hl
   have:y'=z:=by
    simp only [Value.cells] at hi hz'
    grind
   rw [<-this];exact aCu (BR.1 ha _<|GD _) e2
  ·cases h
 |bl b=>simp only [CN,Af] at h;subst h;exact single _ rfl hr
 |ki k n=>simp only [CN,Af] at h;subst h;exact single _ rfl hr
 |own k off=>simp only [CN,Af] at h;subst h;exact single _ rfl hr
 |fn f l=>simp only [CN,Af] at h;subst h;exact single _ rfl hr
 |fb f l=>simp only [CN,Af] at h;subst h;exact single _ rfl hr
 |xq n f=>simp only [CN,Af] at h;subst h;exact single _ rfl hr
 |os k es off n=>simp only [CN,Af] at h;subst h;exact single _ rfl hr
 |op k es i j=>simp only [CN,Af] at h;subst h;exact single _ rfl hr
 |om k=>simp only [CN,Af] at h;subst h;exact single _ rfl hr
 |mp kd ks vs=>simp only [CN,Af] at h;subst h;exact single _ rfl hr
 |oc k es off n c=>simp only [CN,Af] at h;subst h;exact single _ rfl hr
 |CO k=>simp only [CN,Af] at h;subst h;exact single _ rfl hr
 |xl e l=>simp only [CN,Af] at h;subst h;exact single _ rfl hr
 |AM l=>simp [CN] at h
 |junk=>simp [CN] at h
def nR {n:Nat}{x:LV}{cs:List LV}(h:CN x=ah cs) (hr:okV n x):AS n cs:=by
 cases x with
 |v q=>
  simp only [CN] at h;split at h
  ·simp only [Af] at h;subst h;exact TS _ _
  ·cases h
 |agg l=>
  simp only [CN] at h;split at h
  ·simp only [Af] at h;subst h;simpa only [okV] using hr
  ·cases h
 |bl b=>simp only [CN,Af] at h;subst h;exact ⟨hr,ak⟩
 |ki k n=>simp only [CN,Af] at h;subst h;exact ⟨hr,ak⟩
 |own k off=>simp only [CN,Af] at h;subst h;exact ⟨hr,ak⟩
 |fn f l=>simp only [CN,Af] at h;subst h;exact ⟨hr,ak⟩
 |fb f l=>simp only [CN,Af] at h;subst h;exact ⟨hr,ak⟩
 |xq n f=>simp only [CN,Af] at h;subst h;exact ⟨hr,ak⟩
 |os k es off n=>simp only [CN,Af] at h;subst h;exact ⟨hr,ak⟩
 |op k es i j=>simp only [CN,Af] at h;subst h;exact ⟨hr,ak⟩
 |om k=>simp only [CN,Af] at h;subst h;exact ⟨hr,ak⟩
 |mp kd ks vs=>simp only [CN,Af] at h;subst h;exact ⟨hr,ak⟩
 |oc k es off n c=>simp only [CN,Af] at h;subst h;exact ⟨hr,ak⟩
 |CO k=>simp only [CN,Af] at h;subst h;exact ⟨hr,ak⟩
 |xl e l=>simp only [CN,Af] at h;subst h;exact ⟨ak,ak⟩
 |AM l=>simp [CN] at h
 |junk=>simp [CN] at h
def Pe (G:Az) (Z:Nat->Prop) (w:World):Prop:=∀g n f,G g=ah (n,f)->Z g/\∀j,j<n->w.cell? ⟨g,j,aj⟩=ah (f j)
def okB (n:Nat) (b:AB):Prop:=AS n b.c/\(match b.k with| .mp _ _ vs=>AS n vs|_=>True)
def live (β:Nat->Loc) (k:Nat) (b:AB):Prop:=
 match b.k with
 | .cl=>True
 | .vec _ _=>(β k).cap≠aj
 | .mp ..=>True
 | .Cg ..=>True
 | .st ..=>True
 | .dead=>False
def aRq:Ex->Option Code
 | .normal=>aj
 | .exit n=>ah (.exit n)
 | .ret=>ah .ret
def LsR:LS->Loop->Prop
 | .ready,r=>r.state=.ready/\r.pending=aj
 | .busy,r=>r.state=.busy
 | .done x,r=>r.state=.done/\r.pending=aRq x
def BX (β:Nat->Loc) (Z:Nat->Prop) (w:World) (k:Nat) (b:AB):Prop:=
 match b.k with
 | .cl=>∃cs,w.heap[(β k).b]? =ah (.cells cs b.t (0,0))/\RL β Z w b.c cs.toList
 | .vec e l=>match (β k).cap with
  |none=>l=[]
  |some c=>∃cs,w.heap[(β k).b]? =ah (.cells cs b.t (0,0))/\(β k).o+c*e.n<=cs.size/\M l<=c/\∀(i:Nat) (d:e.D),l[i]? =ah d->RD Z w e d (β k).b ((β k).o+i*e.n)
 | .mp kd ks vs=>∃es clock,w.heap[(β k).b]? =ah (.map es clock)/\es.toList.map (·.key)=ks.map (.int kd)/\RL β Z w vs (es.toList.map (·.val))
 | .Cg ps asg body st=>∃r:Loop,w.heap[(β k).b]? =ah (.loop r)/\r.params=ps/\r.assign=asg/\r.body=body/\LsR st r/\RL β Z w b.c r.tmps.toList
 | .st e l=>∃es clock,w.heap[(β k).b]? =ah (.map es clock)/\es.toList.map (·.key)=List.map (aBU e) l/\∀x,x∈es.toList->x.val=.bool U
 | .dead=>True
abbrev GO (D:Nat):Deferred:={target:=.collected D,args:=#[]}
def FV (w:World) (D:Nat):Prop:=w.heap[D]? =ah (.deferred<|ah [])
structure RW (G:Az) (w0:World) (Z0:Gz) (Z:Nat->Prop) (β:Nat->Loc) (H:List AB) (w:World):Prop where
 below:Below w0.heap.size w0 w
 BY:∀b,Z b->b<w.heap.size
 ET:∀b,Z b->Z0.z b\/w0.heap.size<=b
 Ci:∀k b,H[k]? =ah b->live β k b->b.p=X->¬Z (β k).b
 Fz:∀k b,H[k]? =ah b->live β k b->b.p=U->Z (β k).b
 low:∀k b,H[k]? =ah b->live β k b->w0.heap.size<=(β k).b
 inj:∀i j bi bj,H[i]? =ah bi->H[j]? =ah bj->live β i bi->live β j bj->bi.p=X->(β i).b=(β j).b->i=j
 blk:∀k b,H[k]? =ah b->BX β Z w k b/\okB (M H) b
 CZ:Pe G Z w
 gh:∀p,p∈Z0.gh->R β Z w p.1 p.2/\okV (M H) p.1
 Ck:∀D,D∈Z0.Ck->Z D/\FV w D
structure RF (ds:List Deferred) (β:Nat->Loc) (Z:Nat->Prop) (w:World) (n:Nat) (F:List LV) (a:Act):Prop where
 size:a.tmps.size=M F
 get:∀t x,F[t]? =ah x->R β Z w x (a.tmps.getD t undef)/\okV n x
 defers:a.defers=ds/\∀d,d∈ds->∃D,d=GO D/\Z D/\FV w D
theorem RF.eval (hF:RF ds β Z w (M H) F a) (hg:Pe G Z w) (x:Operand):R β Z w (AL G F x) (a.eval x)/\okV (M H) (AL G F x):=by
 cases x with
 |tmp t=>
  simp only [AL,Act.eval];cases h:F[t]? with
  |none=>simp [List.getD,h,R,okV]
  |some y=>simp only [List.getD,h,jw];exact hF.get t y h
 |const x=>
  simp only [AL,Act.eval];cases x<;>simp [R,okV]
 | global g=>
  simp only [AL,Act.eval];split
  ·rename_i n f h
   obtain ⟨h1,h2⟩:=hg g n f h;simp only [R,okV]
   grind
  ·simp [R,okV]
 |func f=>simp only [AL,Act.eval,R,RL,okV,AS];exact ⟨⟨#[],rfl,rfl⟩,ak⟩
def T.pick {α:Type}{K:α->Prop}:∀ {t:T α},t.all K->∃x,K x/\t.all (λy=>y=x)
 | .ok x,h=>⟨x,h,rfl⟩
 | .br b t e,h=>by
  cases b with
  |true=>obtain ⟨x,h1,h2⟩:=T.pick<|h.1 rfl;exact ⟨x,h1,λ_=>h2,λhb=>L4⟩
  |false=>obtain ⟨x,h1,h2⟩:=T.pick<|h.2 rfl;exact ⟨x,h1,λhb=>L4,λ_=>h2⟩
 | .req p t,h=>by obtain ⟨x,h1,h2⟩:=T.pick h.2;exact ⟨x,h1,h.1,h2⟩
 | .no,h=>An
def cell_of_block {b:Nat}{cs:Array Value}{t:TypeId}(h:w.heap[b]? =ah (.cells cs t (0,0))) (o:Nat):w.cell? ⟨b,o,aj⟩=cs[o]? :=by
 simp [World.cell?,h]
def azy {b:Nat}{cs:Array Value}{t:TypeId}(h:w.heap[b]? =ah (.cells cs t (0,0))) (o:Nat):w.frozen? ⟨b,o,aj⟩=false:=by
 simp [World.frozen?,h]
theorem addr_add (b o i:Nat):Addr.add ⟨b,o,aj⟩ i=⟨b,o+i,aj⟩:=by
 unfold Addr.add;split
 ·grind
 ·rfl
def bx {t:TypeId}{b:Bool}(h:S9 P t=ah b) (w:World):(isAgg t).run P w=.ok b w:=by
 unfold S9 at h;cases hu:P.underlying t with
 |none=>simp [hu] at h
 |some d=>
  unfold isAgg;simp only [kC,CY hu,kH];cases d<;>simp_all
def run_sizeOf {t:TypeId}{n:Nat}(h:Gs P t=ah n) (w:World):(sizeOf t).run P w=.ok n w:=by
 unfold Gs at h;cases hu:P.info? t with
 |none=>simp [hu] at h
 |some d=>
  simp only [hu,JG,Af] at h
  simp [sizeOf,typeInfo,hu,h]
def mv {t:TypeId}{z:Value}(h:I6 P t=ah z) (w:World):(zeroValue t).run P w=.ok z w:=by
 unfold I6 at h;cases hu:P.info? t with
 |none=>simp [hu] at h
 |some d=>
  simp only [hu,ON] at h
  simp [zeroValue,typeInfo,hu,h]
theorem RL.take_drop {l:List LV}{ys:List Value}(h:RL β Z w l ys) (off n:Nat):RL β Z w ((l.drop off).take n) ((ys.drop off).take n):=by
 have hl:=RL.length h
 refine RL.CS A8 λi x hx=>?_
 rw [L1] at hx|-;split at hx
 ·rename_i hi
  rw [AD hi];rw [Ew] at hx|-;exact RL.get _ _ h hx
 ·cases hx
def AS.take_drop {n:Nat}{l:List LV}(h:AS n l) (off m:Nat):AS n ((l.drop off).take m):=by
 refine AS.CS λi x hx=>?_
 rw [L1] at hx;split at hx
 ·rw [Ew] at hx;exact AS.get _ _ h hx
 ·cases hx
def RF.mono {β':Nat->Loc}{Z':Nat->Prop}{w':World}{n m:Nat}(hF:RF ds β Z w n F a) (hn:n<=m) (hβ:∀k,k<n->β' k=β k) (hZ:∀b,Z b->Z' b)
  (hw:∀b,Z b->w'.heap[b]? =w.heap[b]?):RF ds β' Z' w' m F a:=
 ⟨hF.size,λt x hx=>⟨R.mono hβ hZ hw x _ (hF.get t x hx).2 (hF.get t x hx).1,okV.mono hn x (hF.get t x hx).2⟩,hF.defers.1,λd hd=>by
  obtain ⟨D,h1,h2,h3⟩:=hF.defers.2 d hd;exact ⟨D,h1,hZ D h2,by unfold FV;rw [hw D h2];exact h3⟩⟩
def okB.mono {n m:Nat}(h:n<=m) {b:AB}(hb:okB n b):okB m b:=by
 refine ⟨AS.mono h _ hb.1,?_⟩
 have:=hb.2
 split
 ·rename_i hk;rw [hk] at this;exact AS.mono h _ this
 ·trivial
def K9 {β':Nat->Loc}{k:Nat}{b:AB}(h:β' k=β k):live β' k b=live β k b:=by
 unfold live;rw [h]
theorem BX.keep {β':Nat->Loc}{Z':Nat->Prop}{w':World}{n k:Nat}{b:AB}(hβ:∀k,k<n->β' k=β k) (hZ:∀b,Z b->Z' b) (hw:∀b,Z b->w'.heap[b]? =w.heap[b]?) (hk:β' k=β k)
  (hb:live β k b->w'.heap[(β k).b]? =w.heap[(β k).b]?) (hok:okB n b) (h:BX β Z w k b):BX β' Z' w' k b:=by
 unfold BX at*;unfold live at hb;unfold okB at hok;rw [hk];split at h
 ·rename_i hbk
  obtain ⟨cs,h1,h2⟩:=h;exact ⟨cs,A8,RL.mono hβ hZ hw _ _ hok.1 h2⟩
 ·rename_i e l hbk
  simp only [hbk] at hb|-;split at h
  ·rename_i hc
   grind
  ·rename_i c hc
   have hb':=hb (by rw [hc];simp)
   obtain ⟨cs,h1,h2,h3,h4⟩:=h;exact ⟨cs,A8,h2,h3,λi d hd=>RD.keep hZ hw e d _ _ hb'<|h4 i d hd⟩
 ·rename_i kd ks vs hbk
  simp only [hbk] at hb hok|-;obtain ⟨es,clock,h1,h2,h3⟩:=h;exact ⟨es,clock,A8,h2,RL.mono hβ hZ hw _ _ hok.2 h3⟩
 ·rename_i ps asg body st hbk
  obtain ⟨r,h1,h2,h3,h4,h5,h6⟩:=h;exact ⟨r,A8,h2,h3,h4,h5,RL.mono hβ hZ hw _ _ hok.1 h6⟩
 ·rename_i e l hbk
  grind
 ·rename_i hbk
  grind
theorem RW.lt (hW:RW G w0 Z0 Z β H w) {k:Nat}{b:AB}(hk:H[k]? =ah b) (hl:live β k b):(β k).b<w.heap.size:=by
 have h:=(hW.blk k b hk).1
 unfold BX at h;unfold live at hl;split at h
 ·obtain ⟨cs,h1,_⟩:=h
  grind
 ·rename_i hbk
  split at h
  ·grind
  ·obtain ⟨cs,h1,_⟩:=h
   grind
 ·obtain ⟨es,clock,h1,_⟩:=h
  grind
 ·obtain ⟨r,h1,_⟩:=h
  grind
 ·obtain ⟨es,clock,h1,_⟩:=h
  grind
 ·rename_i hbk
  grind
def Dv {w w':World}(hb:Below w.heap.size w w') {b:Nat}(h:b<w.heap.size):w'.heap[b]? =w.heap[b]? :=hb.block b h
def Pe.mono {Z':Nat->Prop}{w':World}(h:Pe G Z w) (hZ:∀b,Z b->Z' b) (hw:∀b,Z b->w'.heap[b]? =w.heap[b]?):Pe G Z' w':=λg n f hg=>by
 obtain ⟨h1,h2⟩:=h g n f hg;exact ⟨hZ _ h1,λj hj=>by rw [Q4<|hw g h1];exact h2 j hj⟩
def RW.call {w':World}(hW:RW G w0 Z0 Z β H w) (hb:Below w.heap.size w w'):RW G w0 Z0 (λb=>Z b\/(w.heap.size<=b/\b<w'.heap.size)) β H w':=by
 have hs:=hb.size
 have h0:=hW.below.size
 have hw:∀b,Z b->w'.heap[b]? =w.heap[b]? :=λb hz=>Dv hb<|hW.BY b hz
 refine ⟨hW.below.trans<|hb.mono h0,λb hz=>?_,λb hz=>?_,λk b hk hl hp hz=>?_,λk b hk hl hp=> .inl<|hW.Fz k b hk hl hp,hW.low,hW.inj,λk b hk=>?_,hW.CZ.mono (λ_ h=> .inl h) hw,λp hp=>⟨R.mono (n:=M H) (λ_ _=>rfl) (λ_ h=> .inl h) hw _ _ (hW.gh p hp).2 (hW.gh p hp).1,(hW.gh p hp).2⟩,λD hD=>⟨.inl (hW.Ck D hD).1,Zs⟩⟩
 ·rcases hz with hz|hz
  ·have:=hW.BY b hz;omega
  ·exact hz.2
 ·rcases hz with hz|hz
  ·exact hW.ET b hz
  ·omega
 ·rcases hz with hz|hz
  ·exact hW.Ci k b hk hl hp hz
  ·have:=hW.lt hk hl;omega
 ·obtain ⟨h1,h2⟩:=hW.blk k b hk
  exact ⟨h1.keep (λ_ _=>rfl) (λ_ h=> .inl h) hw rfl (λhl=>Dv hb<|hW.lt hk hl) h2,h2⟩
def RW.same {w':World}(hW:RW G w0 Z0 Z β H w) (hb:Below w.heap.size w w'):RW G w0 Z0 Z β H w':=by
 have hs:=hb.size
 have h0:=hW.below.size
 have hw:∀b,Z b->w'.heap[b]? =w.heap[b]? :=λb hz=>Dv hb<|hW.BY b hz
 refine ⟨hW.below.trans<|hb.mono h0,λb hz=>?_,hW.ET,hW.Ci,hW.Fz,hW.low,hW.inj,λk b hk=>?_,hW.CZ.mono (λ_ h=>h) hw,λp hp=>⟨R.mono (n:=M H) (λ_ _=>rfl) (λ_ h=>h) hw _ _ (hW.gh p hp).2 (hW.gh p hp).1,(hW.gh p hp).2⟩,λD hD=>⟨(hW.Ck D hD).1,Zs⟩⟩
 ·have:=hW.BY b hz;omega
 ·obtain ⟨h1,h2⟩:=hW.blk k b hk
  exact ⟨h1.keep (λ_ _=>rfl) (λ_ h=>h) hw rfl (λhl=>Dv hb<|hW.lt hk hl) h2,h2⟩
theorem RW.KM {ℓ:Loc}{nb:AB}(hW:RW G w0 Z0 Z β H w) (hp:nb.p=X) (hok:okB (M H+1) nb)
  (hf:live (λ_=>ℓ) 0 nb->¬Z ℓ.b/\w0.heap.size<=ℓ.b/\∀j bj,H[j]? =ah bj->live β j bj->(β j).b≠ℓ.b)
  (hB:∀β':Nat->Loc,(∀k,k<M H->β' k=β k)->β' (M H)=ℓ->BX β' Z w (M H) nb):
  ∃β',(∀k,k<M H->β' k=β k)/\β' (M H)=ℓ/\RW G w0 Z0 Z β' (H++[nb]) w:=by
 let β':Nat->Loc:=λk=>if k=M H then ℓ else β k
 have hb':∀k,k<M H->β' k=β k:=λk hk=>A8
 have hbn:β' (M H)=ℓ:=by simp [β']
 have hlive:live β' (M H) nb=live (λ_=>ℓ) 0 nb:=by unfold live;rw [hbn]
 have old:∀k b,(H++[nb])[k]? =ah b->(k<M H/\H[k]? =ah b/\β' k=β k)\/(k=M H/\b=nb):=λk b h=>by
  by_cases hk:k<M H
  ·grind
  ·have hkl:k=M H:=A8
   subst hkl
   simp at h
   exact .inr ⟨rfl,h.symm⟩
 refine ⟨β',hb',hbn,hW.below,hW.BY,hW.ET,λk b hk hl hp'=>?_,λk b hk hl hp'=>?_,λk b hk hl=>?_,λi j bi bj hi hj li lj hpi e=>?_,λk b hk=>?_,hW.CZ,λp hp=>⟨R.mono hb' (λ_ h=>h) (λ_ _=>rfl) _ _ (hW.gh p hp).2 (hW.gh p hp).1,okV.mono AJ _ (hW.gh p hp).2⟩,hW.Ck⟩
 ·rcases old k b hk with ⟨h1,h2,h3⟩ |⟨rfl,rfl⟩
  ·rw [h3];rw [K9 h3] at hl;exact hW.Ci k b h2 hl hp'
  ·grind
 ·rcases old k b hk with ⟨h1,h2,h3⟩ |⟨rfl,rfl⟩
  ·rw [h3];rw [K9 h3] at hl;exact hW.Fz k b h2 hl hp'
  ·rw [hp] at hp';cases hp'
 ·rcases old k b hk with ⟨h1,h2,h3⟩ |⟨rfl,rfl⟩
  ·rw [h3];rw [K9 h3] at hl;exact hW.low k b h2 hl
  ·grind
 ·rcases old i bi hi with ⟨h1,h2,h3⟩ |⟨rfl,rfl⟩
  ·rw [K9 h3] at li
   rcases old j bj hj with ⟨g1,g2,g3⟩ |⟨rfl,rfl⟩
   ·rw [K9 g3] at lj;rw [h3,g3] at e;exact hW.inj i j bi bj h2 g2 li lj hpi e
   ·grind
  ·rw [hlive] at li
   rcases old j bj hj with ⟨g1,g2,g3⟩ |⟨rfl,rfl⟩
   ·rw [K9 g3] at lj;rw [hbn,g3] at e;exact absurd e.symm<|(hf li).2.2 j bj g2 lj
   ·rfl
 ·have hlen:M (H++[nb])=M H+1:=AJ
  rw [hlen];rcases old k b hk with ⟨h1,h2,h3⟩ |⟨rfl,rfl⟩
  ·obtain ⟨g1,g2⟩:=hW.blk k b h2
   exact ⟨g1.keep hb' (λ_ h=>h) (λ_ _=>rfl) h3 (λ_=>rfl) g2,g2.mono A0⟩
  ·grind
theorem RW.set {w':World}{k:Nat}{b nb:AB}(hW:RW G w0 Z0 Z β H w) (hk:H[k]? =ah b) (hl:live β k b) (hp:b.p=X) (hnp:nb.p=X) (hok:okB (M H) nb)
  (hsz:w'.heap.size=w.heap.size) (hos:w'.os=w.os/\w'.tape=w.tape/\w'.output=w.output) (hne:∀j,j≠(β k).b->w'.heap[j]? =w.heap[j]?) (hB:BX β Z w' k nb):RW G w0 Z0 Z β (H.set k nb) w':=by
 have hw:∀b',Z b'->w'.heap[b']? =w.heap[b']? :=λb' hz=>hne b' λe=>hW.Ci k b hk hl hp<|e▸hz
 have old:∀i bi,(H.set k nb)[i]? =ah bi->(i=k/\bi=nb)\/(i≠k/\H[i]? =ah bi):=λi bi h=>by
  rw [Hx] at h;split at h
  ·rename_i e
   grind
  ·grind
 refine ⟨?_,λb' hz=>aNP,hW.ET,λi bi hi li pi=>?_,λi bi hi li pi=>?_,λi bi hi li=>?_,λi j bi bj hi hj li lj pi e=>?_,λi bi hi=>?_,hW.CZ.mono (λ_ h=>h) hw,λp hp=>⟨R.mono (n:=M H) (λ_ _=>rfl) (λ_ h=>h) hw _ _ (hW.gh p hp).2 (hW.gh p hp).1,aNQ⟩,λD hD=>⟨(hW.Ck D hD).1,Zs⟩⟩
 ·refine hW.below.trans ⟨hos.1,hos.2.1,hos.2.2,kV hsz.symm,λi hi=>hne i ?_⟩
  have:=hW.low k b hk hl
  omega
 ·rcases old i bi hi with ⟨rfl,rfl⟩ |⟨h1,h2⟩
  ·exact hW.Ci _ b hk hl hp
  ·exact hW.Ci i bi h2 li pi
 ·rcases old i bi hi with ⟨rfl,rfl⟩ |⟨h1,h2⟩
  ·grind
  ·exact hW.Fz i bi h2 li pi
 ·rcases old i bi hi with ⟨rfl,rfl⟩ |⟨h1,h2⟩
  ·exact hW.low _ b hk hl
  ·exact hW.low i bi h2 li
 ·rcases old i bi hi with ⟨rfl,rfl⟩ |⟨h1,h2⟩
  ·rcases old j bj hj with ⟨rfl,rfl⟩ |⟨g1,g2⟩
   ·rfl
   ·exact hW.inj _ j b bj hk g2 hl lj hp e
  ·rcases old j bj hj with ⟨rfl,rfl⟩ |⟨g1,g2⟩
   ·exact hW.inj i _ bi b h2 hk li hl pi e
   ·exact hW.inj i j bi bj h2 g2 li lj pi e
 ·rw [CL]
  rcases old i bi hi with ⟨rfl,rfl⟩ |⟨h1,h2⟩
  ·grind
  ·obtain ⟨g1,g2⟩:=hW.blk i bi h2
   refine ⟨g1.keep (λ_ _=>rfl) (λ_ h=>h) hw rfl (λli=>hne _ λe=>?_) g2,g2⟩
   exact h1 (hW.inj k i b bi hk h2 hl li hp e.symm).symm
theorem RW.alloc {cs:List LV}{vs:Array Value}{t:TypeId}(hW:RW G w0 Z0 Z β H w) (hr:RL β Z w cs vs.toList) (hk:AS (M H) cs):
  ∃β',(∀k,k<M H->β' k=β k)/\(β'<|M H).b=w.heap.size/\RW G w0 Z0 Z β' (H++[⟨cs,t,.cl,X⟩]) (w.alloc<|.cells vs t)/\(∀b,Z b->(w.alloc<|.cells vs t).heap[b]? =w.heap[b]?):=by
 have hbw:Below w.heap.size w (w.alloc<|.cells vs t):=(Below.refl _ _).alloc (Av _) _
 have hw:∀b,Z b->(w.alloc<|.cells vs t).heap[b]? =w.heap[b]? :=λb hz=>Dv hbw<|hW.BY b hz
 obtain ⟨β',h1,h2,h3⟩:=(hW.same hbw).KM (ℓ:=⟨w.heap.size,0,aj⟩) (nb:=⟨cs,t,.cl,X⟩) rfl ⟨AS.mono A0 _ hk,ak⟩ (λ_=>⟨λhz=>Zy,hW.below.size,λj bj hj lj e=>Sj⟩) (λβ' h1 h2=>by
  simp only [BX,h2];refine ⟨vs,?_,RL.mono h1 (λ_ h=>h) hw _ _ hk hr⟩
  show (w.heap.push _)[w.heap.size]? =_
  simp)
 grind
def DN (β:Nat->Loc) (H:List AB) (ks:List Nat):List Nat:=(ks.filter λk=>@decide (∃b,H[k]? =ah b/\live β k b/\b.p=X)<|Classical.propDecidable _).map λk=>(β k).b
theorem cq {ks:List Nat}{x:Nat}:x∈DN β H ks↔∃k b,k∈ks/\H[k]? =ah b/\live β k b/\b.p=X/\x=(β k).b:=by
 unfold DN;simp only [Eg,Fs]
 constructor
 ·rintro ⟨k,⟨h1,h2⟩,h3⟩
  grind
 ·rintro ⟨k,b,h1,h2,h3,h4,h5⟩
  grind
def TG {k:Nat}{b:AB}(hb:H[k]? =ah b) (hl:live β k b) (hp:b.p=X):(β k).b∈DN β H [k]:=cq.2 ⟨k,b,AJ,hb,hl,hp,rfl⟩
end Go.Sx
namespace Go.Sx
open Go.Proofs.YtpfblnbippcdjaaGreatDoor
open Go Go.RowKit
variable {P : Program} {G : Az} {Γ : Specs} {β : Nat -> Loc} {Z : Nat -> Prop} {Z0 : Gz} {w w0 : World} {F : List LV} {H : List AB} {a : Act}
theorem RD.cells {Z Z':Nat->Prop}{w w':World}(hZ:∀b,Z b->Z' b) (hw:∀b,Z b->w'.heap[b]? =w.heap[b]?):
  ∀(t:Ty) (d:t.D) (b o:Nat),(∀j,j<t.n->w'.cell? ⟨b,o+j,aj⟩=w.cell? ⟨b,o+j,aj⟩)->RD Z w t d b o->RD Z' w' t d b o
 | .int _,_,b,o,hb,h=>VF
 | .bool,_,b,o,hb,h=>VF
 | .str,_,b,o,hb,h=>VF
 | .sl e,l,b,o,hb,h=>by
  exact aLE
 | .pair x y,d,b,o,hb,h=>by
  refine ⟨RD.cells hZ hw x d.1 b o (λj hj=>hb j lM) h.1,RD.cells hZ hw y d.2 b _ (λj hj=>?_) h.2⟩
  have:=hb (x.n+j) lM
  grind
theorem getD_lt {l:List LV}{j:Nat}(h:j<M l):l[j]? =ah (l.getD j .junk):=A8
def dO {n:Nat}{l:List LV}(h:AS n l) (j:Nat):okV n (l.getD j .junk):=by
 cases hq:l[j]? with
 |none=>simp [List.getD,hq,okV]
 |some q=>simp only [List.getD,hq,jw];exact AS.get _ _ h hq
theorem getD_at {e:Ty}{l:List e.D}{i:Nat}(h:i<M l):l[i]? =ah (l.getD i e.dflt):=A8
theorem oy {b off n:Nat}{L:List LV}(hL:M L=n) (hc:∀q,q<n->∃z,w.cell? ⟨b,off+q,aj⟩=ah z/\R β Z w (L.getD q .junk) z):
  ∃zs:List Value,M zs=n/\RL β Z w L zs/\∀w':World,w'.heap[b]? =w.heap[b]? ->(loadCells ⟨b,off,aj⟩ n).run P w'=.ok zs.toArray w':=by
 have hch:∀j,∃z,j<n->w.cell? ⟨b,off+j,aj⟩=ah z/\R β Z w (L.getD j .junk) z:=λj=>by
  by_cases hj:j<n
  ·grind
  ·exact ⟨undef,λh=>absurd h hj⟩
 obtain ⟨g,hg⟩:=we hch;refine ⟨(au n).map g,AJ,RL.CS A8 λi x hx=>?_,λw' hw'=>?_⟩
 ·have hi:i<n:=A8
  refine ⟨g i,A8,?_⟩
  grind
 ·have hld:=run_loadCells (P:=P) w' ⟨b,off,aj⟩ n g (λj hj=>by rw [addr_add,Q4 (w:=w) (w':=w') hw'];exact (hg j hj).1)
  grind
theorem my {t:TypeId}{x lv:LV}{y:Value}(hW:RW G w0 Z0 Z β H w) (h:(F8 P H t x).all λz=>z=lv) (hr:R β Z w x y) (hk:okV (M H) x):
  ∃z,(∀w',(∀b,(Z b\/∃k,k∈owns x/\b=(β k).b)->w'.heap[b]? =w.heap[b]?)->(Instr.loadAt t y).run P w'=.ok z w')/\R β Z w lv z/\okV (M H) lv:=by
 have ownCl:∀(k:Nat) (b:AB),H[k]? =ah b->b.Dk=U->∃cs,w.heap[(β k).b]? =ah (.cells cs b.t (0,0))/\RL β Z w b.c cs.toList/\AS (M H) b.c:=λk b hb hc=>by
  obtain ⟨h1,h2⟩:=hW.blk k b hb;unfold BX at h1;unfold AB.Dk at hc;split at hc
  ·rename_i hk'
   simp only [hk'] at h1;obtain ⟨cs,h3,h4⟩:=h1;exact ⟨cs,h3,h4,h2.1⟩
  ·cases hc
 have vecAt:∀(k es i:Nat) (c:List LV) (t:TypeId) (e:Ty) (l:List e.D) (p:Bool),H[k]? =ah ⟨c,t,.vec e l,p⟩->(β k).cap≠aj->e.n=es->i<M l->∀q,q<es->∃z,w.cell? ⟨(β k).b,(β k).o+i*es+q,aj⟩=ah z/\R β Z w ((Bq e<|l.getD i e.dflt).getD q .junk) z:=λk es i c t e l p hb hcap hes hi q hq=>by
  have h1:=(hW.blk k _ hb).1
  simp only [BX] at h1;split at h1
  ·exact xu
  ·obtain ⟨cs,_,_,_,h4⟩:=h1
   have h5:=h4 i _<|getD_at hi
   subst hes;exact Wk e _ _ _ h5 q _<|getD_lt (by rw [K2];exact hq)
 unfold F8 at h;split at h
 ·rename_i n hag hsz
  have e1:=λw=>bx hag w
  have e2:=λw=>run_sizeOf hsz w
  split at h
  ·rename_i k off
   split at h
   ·rename_i b hb
    split at h
    ·rename_i hle
     simp only [T.all] at h;obtain ⟨cs,hc,hrl,hok⟩:=ownCl k b hb hle.1;simp only [R] at hr
     have hlen:=RL.length hrl
     have hn:M ((b.c.drop off).take n)=n:=D2
     obtain ⟨zs,f1,f2,f3⟩:=oy (P:=P) (β:=β) (Z:=Z) (w:=w) (b:=(β k).b) (off:=off) (L:=(b.c.drop off).take n) hn (λq hq=>by
      have hlt:off+q<M b.c:=A0
      obtain ⟨z,h1,h2⟩:=RL.get _ _ hrl<|DR hlt;refine ⟨z,aN2,?_⟩
      have:((b.c.drop off).take n).getD q .junk=b.c[off+q]:=by
       grind
      rw [this];exact h2)
     refine ⟨.agg zs.toArray,λw' hw'=>?_,?_,?_⟩
     ·have:=f3 w' (hw' (β k).b<|.inr ⟨k,IU,rfl⟩)
      simp [Instr.loadAt,Instr.sureAddr,hr,loadVar,e1,e2,this]
     ·exact xc
     ·rw [<-h];exact QH<|hok.take_drop off n
    ·cases h
   ·cases h
  ·rename_i m f
   split at h
   ·rename_i hle
    simp only [T.all] at h;simp only [R] at hr;obtain ⟨b,off,e3,hz,e4⟩:=hr;simp only [okV] at hk
    obtain ⟨zs,f1,f2,f3⟩:=oy (P:=P) (β:=β) (Z:=Z) (w:=w) (b:=b) (off:=off) (L:=(au n).map f) (n:=n) AJ (λq hq=>by
     obtain ⟨z,h1,h2⟩:=e4 q A0;exact ⟨z,h1,by simpa [List.getD,hq] using h2⟩)
    refine ⟨.agg zs.toArray,λw' hw'=>?_,?_,?_⟩
    ·have:=f3 w' (hw' b<|.inl hz)
     simp [Instr.loadAt,Instr.sureAddr,e3,loadVar,e1,e2,this]
    ·exact xc
    ·rw [<-h]
     refine QH<|AS.CS λi x hx=>?_
     have hi:i<n:=by have:=(Du.1 hx).1;simpa using this
     have:x=f i:=by simpa [hi] using hx.symm
     rw [this];exact okV.mono (N3 _) _<|hk i
   ·cases h
  ·rename_i k es i j
   split at h
   ·rename_i c t' e l p hb
    split at h
    ·rename_i hle
     simp only [T.all] at h;obtain ⟨hi,h⟩:=h;simp only [R] at hr
     have hva:=vecAt k es i c t' e l p hb hr.1 hle.1 hi
     have hlen:M (Bq e<|l.getD i e.dflt)=es:=by rw [K2];exact hle.1
     obtain ⟨zs,f1,f2,f3⟩:=oy (P:=P) (β:=β) (Z:=Z) (w:=w) (b:=(β k).b) (off:=(β k).o+i*es+j) (L:=((Bq e<|l.getD i e.dflt).drop j).take n) (n:=n) (by rw [M6,Eu,hlen];omega) (λq hq=>by
      obtain ⟨z,h1,h2⟩:=hva (j+q) A0;refine ⟨z,by rw [HO _ j q];exact h1,?_⟩
      have:(((Bq e<|l.getD i e.dflt).drop j).take n).getD q .junk=(Bq e<|l.getD i e.dflt).getD (j+q) .junk:=by
       generalize Bq e (l.getD i e.dflt)=L
       grind
      rw [this];exact h2)
     refine ⟨.agg zs.toArray,λw' hw'=>?_,?_,?_⟩
     ·have:=f3 w' (hw' (β k).b<|.inr ⟨k,IU,rfl⟩)
      simp [Instr.loadAt,Instr.sureAddr,hr.2,loadVar,e1,e2,this]
     ·exact xc
     ·rw [<-h];exact QH<|(NK _ e _).take_drop j n
    ·cases h
   ·cases h
  ·cases h
 ·rename_i _ hag
  have e1:=λw=>bx hag w
  split at h
  ·rename_i k off
   split at h
   ·rename_i b hb
    split at h
    ·rename_i hcl
     split at h
     ·rename_i z hz
      simp only [T.all] at h;obtain ⟨cs,hc,hrl,hok⟩:=ownCl k b hb hcl;simp only [R] at hr;obtain ⟨q,h1,h2⟩:=RL.get _ _ hrl hz;refine ⟨q,λw' hw'=>?_,?_,?_⟩
      ·have:w'.cell? ⟨(β k).b,off,aj⟩=ah q:=by rw [cell_of_block (by rw [hw' (β k).b<|.inr ⟨k,IU,rfl⟩];exact hc)];simpa using h1
       simp [Instr.loadAt,Instr.sureAddr,hr,loadVar,e1,this]
      ·rw [<-h];exact h2
      ·rw [<-h];exact AS.get _ _ hok hz
     ·cases h
    ·cases h
   ·cases h
  ·rename_i m f
   split at h
   ·rename_i hm
    simp only [T.all] at h;simp only [R] at hr;obtain ⟨b,off,e3,hz,e4⟩:=hr;obtain ⟨z,h1,h2⟩:=e4 0 hm;refine ⟨z,λw' hw'=>?_,?_,?_⟩
    ·have:w'.cell? ⟨b,off,aj⟩=ah z:=by rw [Q4 (w:=w) (w':=w')<|hw' b<|.inl hz];simpa using h1
     simp [Instr.loadAt,Instr.sureAddr,e3,loadVar,e1,this]
    ·rw [<-h];exact h2
    ·rw [<-h];simp only [okV] at hk;exact okV.mono (N3 _) _<|hk 0
   ·cases h
  ·rename_i k es i j
   split at h
   ·rename_i c t' e l p hb
    split at h
    ·rename_i hes
     simp only [T.all] at h;obtain ⟨hi,h⟩:=h;split at h
     ·rename_i q hq
      simp only [T.all] at h;simp only [R] at hr
      have hj:j<es:=by
       have:=(Du.1 hq).1
       rw [K2] at this;omega
      obtain ⟨z,h1,h2⟩:=vecAt k es i c t' e l p hb hr.1 hes hi j hj
      have hqq:(Bq e<|l.getD i e.dflt).getD j .junk=q:=Dt<|(getD_lt (Du.1 hq).1).symm.trans hq
      rw [hqq] at h2;refine ⟨z,λw' hw'=>?_,?_,?_⟩
      ·have:w'.cell? ⟨(β k).b,(β k).o+i*es+j,aj⟩=ah z:=by rw [Q4 (w:=w) (w':=w')<|hw' (β k).b<|.inr ⟨k,IU,rfl⟩];exact h1
       simp [Instr.loadAt,Instr.sureAddr,hr.2,loadVar,e1,this]
      ·rw [<-h];exact h2
      ·rw [<-h];exact AS.get _ _ (NK _ e _) hq
     ·cases h
    ·cases h
   ·cases h
  ·cases h
 ·cases h
end Go.Sx
namespace Go.Sx
open Go.Proofs.YtpfblnbippcdjaaGreatDoor
open Go Go.RowKit
variable {P : Program} {G : Az} {Γ : Specs} {β : Nat -> Loc} {Z : Nat -> Prop} {Z0 : Gz} {w w0 : World} {F : List LV} {H : List AB} {a : Act}
def oo {z:Value}(h:Jh z=U):z.oneCell'=true:=by cases z<;>first|rfl|(simp [Jh] at h)
theorem aBl (w:World) (g:Nat) (cs:Array Value) (k:Nat) (h:k≠g):(w.setRow g cs).heap[k]? =w.heap[k]? :=by
 simp only [World.setRow,Array.getElem?_modify]
 grind
def RL.app:∀ {a b:List LV}{c d:List Value},RL β Z w a c->RL β Z w b d->RL β Z w (a++b) (c++d)
 | [],_,_,_,h,h'=>by simp only [RL] at h;subst h;simpa using h'
 |x::xs,_,_,d,h,h'=>by
  obtain ⟨y,zs,rfl,h3,h4⟩:=h;exact ⟨y,zs++d,rfl,h3,RL.app h4 h'⟩
def RL.drop {l:List LV}{ys:List Value}(h:RL β Z w l ys) (n:Nat):RL β Z w (l.drop n) (ys.drop n):=by
 refine RL.CS (by simp [RL.length h]) λi z hz=>?_
 rw [Ew] at hz|-;exact RL.get _ _ h hz
def RL.take {l:List LV}{ys:List Value}(h:RL β Z w l ys) (n:Nat):RL β Z w (l.take n) (ys.take n):=by simpa using h.take_drop 0 n
def RL.setAt {l cs:List LV}{ys zs:List Value}(h1:RL β Z w l ys) (h2:RL β Z w cs zs) (off:Nat):RL β Z w (setAt l off cs) (ys.take off++zs++ys.drop (off+M zs)):=by
 have e2:=RL.length h2
 rw [e2];exact RL.app (RL.app (h1.take off) h2)<|h1.drop _
def AS.append {n:Nat}:∀ {a b:List LV},AS n a->AS n b->AS n (a++b)
 | [],_,_,h=>h
 |_::_,_,h,h'=>⟨h.1,AS.append h.2 h'⟩
def AS.drop {n:Nat}{l:List LV}(h:AS n l) (m:Nat):AS n (l.drop m):=by
 refine AS.CS λi x hx=>?_
 rw [Ew] at hx;exact AS.get _ _ h hx
def AS.setAt {n:Nat}{l cs:List LV}(h1:AS n l) (h2:AS n cs) (off:Nat):AS n (setAt l off cs):=by
 refine AS.append (AS.append ?_ h2)<|h1.drop _
 have:=h1.take_drop 0 off;simpa using this
theorem o5 {α:Type}{f:LV->Option α}{l:List LV}{d:α}(h:hd1 f l=ah d):∃x,l=[x]/\f x=ah d:=by
 unfold hd1 at h;exact kr
def atb {a b:Ty}(h:a=b) (l:List a.D) {y:Value}:R β Z w (.xl b<|KW h l) y↔R β Z w (.xl a l) y:=by subst h;rfl
theorem ti {e:Ty}{x:LV}{l:List e.D}{y:Value}(h:Mt e x=ah l) (hr:R β Z w x y):R β Z w (.xl e l) y:=by
 unfold Mt at h;split at h
 ·split at h
  ·rename_i q h'
   simp only [Af] at h;subst h;exact (atb q _).2 hr
  ·cases h
 ·simp only [Af] at h
  simp only [R] at hr|-
  grind
 ·cases h
theorem tl {Z':Nat->Prop}{w':World}(hZ:∀b,Z b->Z' b) (hw:∀b,Z b->w'.heap[b]? =w.heap[b]?):∀(t:Ty) (cs:List LV) (d:t.D) (ys:List Value),Je t cs=ah d->RL β Z w cs ys->∀(b o:Nat),(∀(j:Nat) v,ys[j]? =ah v->w'.cell? ⟨b,o+j,aj⟩=ah v)->RD Z' w' t d b o:=by
 have one:∀ {l:List LV} {ys:List Value} {x:LV},l=[x]->RL β Z w l ys->∀ {b o:Nat},(∀(j:Nat) v,ys[j]? =ah v->w'.cell? ⟨b,o+j,aj⟩=ah v)->∃y,R β Z w x y/\w'.cell? ⟨b,o,aj⟩=ah y:=by
  intro l ys x hl hr b o hc;subst hl;simp only [RL] at hr;obtain ⟨y,zs,rfl,h1,_⟩:=hr;exact ⟨y,h1,hc 0 y rfl⟩
 intro t
 induction t with
 | int k=>
  intro cs d ys h hr b o hc;obtain ⟨x,hl,hx⟩:=o5 h;obtain ⟨y,h1,h2⟩:=one hl hr hc;simp only [RD];rw [h2];unfold w8 at hx;split at hx
  ·exact aLp
  ·exact aLp
  ·cases hx
 |bool=>
  intro cs d ys h hr b o hc;obtain ⟨x,hl,hx⟩:=o5 h;obtain ⟨y,h1,h2⟩:=one hl hr hc;simp only [RD];rw [h2];unfold w9 at hx;split at hx
  ·exact xi
  ·exact xi
  ·cases hx
 |str=>
  intro cs d ys h hr b o hc;obtain ⟨x,hl,hx⟩:=o5 h;obtain ⟨y,h1,h2⟩:=one hl hr hc;simp only [RD];rw [h2];unfold wB at hx;split at hx
  ·exact xi
  ·cases hx
 |sl e _=>
  intro cs d ys h hr b o hc;obtain ⟨x,hl,hx⟩:=o5 h;obtain ⟨y,h1,h2⟩:=one hl hr hc
  have h3:=ti hx h1
  simp only [R] at h3;obtain ⟨a,cap,g1,g2,g3⟩:=h3;simp only [RD];refine ⟨a,cap,by rw [h2,g1],g2,λhn=>?_⟩
  obtain ⟨b',o',g4,g5,g6⟩:=g3 hn;exact ⟨b',o',g4,hZ _ g5,λi d hd=>RD.mono hZ hw e d b' _ g5<|g6 i d hd⟩
 | pair p q ihp ihq=>
  intro cs d ys h hr b o hc;simp only [Je] at h;split at h
  ·rename_i x y hx hy
   simp only [Af] at h;subst h;simp only [RD];refine ⟨ihp _ x _ hx (hr.take p.n) b o λj v hv=>?_,ihq _ y _ hy (hr.drop p.n) b (o+p.n) λj v hv=>?_⟩
   ·exact aM3
   ·rw [Ew] at hv
    grind
  ·cases h
def adx {t:TypeId} {x q:LV} {y z:Value} {H':List AB} (hW:RW G w0 Z0 Z β H w) (h:(TL P H t x q).all λr=>r=H') (hr:R β Z w x y) (hq:R β Z w q z) (hqk:okV (M H) q):
  ∃w',(Instr.storeAt t y z).run P w=.ok () w'/\RW G w0 Z0 Z β H' w'/\M H'=M H/\(∀b,Z b->w'.heap[b]? =w.heap[b]?)/\DL (DN β H<|owns x) w w':=by
 unfold TL at h;split at h
 ·rename_i n cs hsz hcs
  have e2:=λw=>run_sizeOf hsz w
  obtain ⟨c1,c2⟩:=nr hcs hq
  have c3:=nR hcs hqk
  have hlen2:=RL.length c1
  split at h
  ·rename_i k off
   split at h
   ·rename_i b hb
    split at h
    ·rename_i hle
     obtain ⟨hcl,hbp,hl1,hl2⟩:=hle;simp only [T.all] at h
     have hbk:b.k=.cl:=by
      unfold AB.Dk at hcl;split at hcl
      ·assumption
      ·cases hcl
     have hlive:live β k b:=by unfold live;rw [hbk];trivial
     obtain ⟨h1,h2⟩:=hW.blk k b hb;unfold BX at h1;simp only [hbk] at h1;obtain ⟨cur,hc,hrl⟩:=h1
     have hlen:=RL.length hrl
     simp only [R] at hr
     have hst:=xH P (β k).b off b.t z.cells.toList 0 cur w hc (by simp at hlen;omega) λv hv=>oo<|c2 v hv
     have e3:z.cells.size=n:=by simp at hlen2;omega
     have hne:∀j,j≠(β k).b->(w.setRow (β k).b (cur.toList.take (off+0)++z.cells.toList++cur.toList.drop (off+0+M z.cells.toList)).toArray).heap[j]? =w.heap[j]? :=λj hj=>aBl w _ _ _ hj
     refine ⟨w.setRow (β k).b (cur.toList.take (off+0)++z.cells.toList++cur.toList.drop (off+0+M z.cells.toList)).toArray,by simp [Instr.storeAt,Instr.sureAddr,hr,storeVar,e2,e3,hst],?_,by rw [<-h];simp,λb' hz=>hne b' λe=>hW.Ci k b hb hlive hbp<|e▸hz,⟨rfl,rfl,rfl,VA,λi _ hi=>hne i λe=>hi<|e▸TG hb hlive hbp⟩⟩
     rw [<-h];refine hW.set hb hlive hbp hbp ⟨AS.setAt h2.1 c3 off,by simp only [hbk]⟩ VA ⟨rfl,rfl,rfl⟩ hne ?_
     unfold BX;simp only [hbk];refine ⟨_,setRow_heap w (β k).b cur _ b.t _ hc,?_⟩;refine RL.mono (n:=M H) (λ_ _=>rfl) (λ_ h=>h) (λb' hz=>hne b' λe=>hW.Ci k b hb hlive hbp<|e▸hz) _ _ (AS.setAt h2.1 c3 off) ?_
     have:=RL.setAt (β:=β) (Z:=Z) (w:=w) hrl c1 off
     exact Py
    ·cases h
   ·cases h
  ·rename_i k es i j
   split at h
   ·rename_i c0 bt e l hb
    split at h
    ·rename_i hle
     obtain ⟨hes,hl1,hl2⟩:=hle;simp only [T.all] at h;obtain ⟨hi,h⟩:=h;split at h
     ·rename_i d hd
      simp only [T.all] at h;simp only [R] at hr;obtain ⟨hcap,hy⟩:=hr
      have hlive:live β k ⟨c0,bt,.vec e l,X⟩:=hcap
      obtain ⟨h1,h2⟩:=hW.blk k _ hb;simp only [BX] at h1;split at h1
      ·exact xu
      ·rename_i c hc
       obtain ⟨cur,g1,g2,g3,g4⟩:=h1;subst hes
       have hmul:i*e.n+e.n<=c*e.n:=by
        have:=N2 e.n (show i+1<=c by omega)
        rwa [Fu,SY] at this
       have e3:z.cells.size=n:=by simp at hlen2;omega
       have hzl:M z.cells.toList=n:=by simpa using e3
       have hst:=xH P (β k).b ((β k).o+i*e.n+j) bt z.cells.toList 0 cur w g1 (by rw [hzl];omega) λv hv=>oo<|c2 v hv
       simp only [Za] at hst;generalize hnew:(cur.toList.take ((β k).o+i*e.n+j)++z.cells.toList++cur.toList.drop ((β k).o+i*e.n+j+M z.cells.toList)).toArray=new at hst
       have hnget:∀p,new[p]? =if p<(β k).o+i*e.n+j then cur[p]? else if p<(β k).o+i*e.n+j+n then z.cells.toList[p-((β k).o+i*e.n+j)]? else cur[p]? :=λp=>by
        rw [<-hnew]
        by_cases q1:p<(β k).o+i*e.n+j
        ·exact aMG
        ·rw [AE q1]
         simp only [ZC]
         by_cases q2:p<(β k).o+i*e.n+j+n
         ·exact aLJ
         ·rw [AE q2,GC D2,Ew]
          have:(β k).o+i*e.n+j+M z.cells.toList+(p-M (cur.toList.take ((β k).o+i*e.n+j)++z.cells.toList))=p:=by
           simp
           omega
          rw [this]
          simp
       have hnsz:new.size=cur.size:=by
        rw [<-hnew]
        simp
        omega
       have hne:∀q,q≠(β k).b->(w.setRow (β k).b new).heap[q]? =w.heap[q]? :=λq hq=>aBl w _ _ _ hq
       have hZw:∀b',Z b'->(w.setRow (β k).b new).heap[b']? =w.heap[b']? :=λb' hz=>hne b' λe=>hW.Ci k _ hb hlive rfl<|e▸hz
       have hblk:=setRow_heap w (β k).b cur new bt _ g1
       refine ⟨w.setRow (β k).b new,by simp [Instr.storeAt,Instr.sureAddr,hy,storeVar,e2,e3,hst],?_,by rw [<-h];simp,hZw,⟨rfl,rfl,rfl,VA,λq _ hq=>hne q λe=>hq<|e▸TG hb hlive rfl⟩⟩
       rw [<-h];refine hW.set hb hlive rfl rfl ⟨ak,ak⟩ VA ⟨rfl,rfl,rfl⟩ hne ?_;simp only [BX,hc];refine ⟨new,hblk,A0,by rw [CL];exact g3,λi' d' hd'=>?_⟩
       by_cases hii:i'=i
       ·subst hii
        have hdd:d'=d:=by
         rw [List.getElem?_set_self<|by exact hi] at hd'
         simpa using hd'.symm
        subst hdd
        have hcells:∃ys,RL β Z w (Bq e<|l.getD i' e.dflt) ys/\∀p,ys[p]? =if p<e.n then cur[(β k).o+i'*e.n+p]? else none:=by
         have hrd:=g4 i' _<|getD_at hi
         refine ⟨((cur.toList.drop<|(β k).o+i'*e.n).take e.n),RL.CS ?_ λp x hx=>?_,λp=>?_⟩
         ·rw [K2];simp;omega
         ·obtain ⟨v,q1,q2⟩:=Wk (β:=β) e _ _ _ hrd p x hx
          have hp:p<e.n:=by have:=(Du.1 hx).1;rwa [K2] at this
          refine ⟨v,?_,q2⟩;rw [cell_of_block g1] at q1;rw [L1,AD hp,Ew]
          simpa using q1
         ·rw [L1,Ew]
          simp
        obtain ⟨ys,y1,y2⟩:=hcells
        have hset:=RL.setAt y1 c1 j
        refine tl (λ_ h=>h) hZw e _ d' _ hd hset _ _ λp v hv=>?_
        rw [cell_of_block hblk,hnget]
        have hyl:M ys=e.n:=by have:=RL.length y1;rw [K2] at this;exact this
        by_cases p1:p<j
        ·rw [AD A0]
         rw [Cm,HL D2,aKW p1,y2] at hv;rw [AD A0] at hv;exact hv
        ·by_cases p2:p<j+n
         ·rw [AE A0,AD A0]
          rw [HL D2,GC D2] at hv;rw [<-hv]
          congr 1
          simp
          omega
         ·rw [AE A0,AE A0]
          rw [GC D2,Ew,y2] at hv;split at hv
          ·rw [<-hv]
           congr 1
           simp
           omega
          ·cases hv
       ·rw [ZO<|OU hii] at hd'
        refine RD.cells (λ_ h=>h) hZw e d' _ _ (λp hp=>?_)<|g4 i' d' hd'
        rw [cell_of_block hblk,cell_of_block g1,hnget]
        have hsep:i'*e.n+e.n<=i*e.n\/i*e.n+e.n<=i'*e.n:=by
         rcases Pv i' i with hlt|hge
         ·left
          have:=N2 e.n (show i'+1<=i by omega)
          rwa [Fu,SY] at this
         ·right
          have:=N2 e.n (show i+1<=i' by omega)
          rwa [Fu,SY] at this
        split
        ·rfl
        ·rw [AE A0]
     ·cases h
    ·cases h
   ·cases h
  ·cases h
 ·cases h
end Go.Sx
namespace Go.Sx
open Go.Proofs.YtpfblnbippcdjaaGreatDoor
open Go Go.RowKit
variable {P : Program} {G : Az} {Γ : Specs} {β : Nat -> Loc} {Z : Nat -> Prop} {Z0 : Gz} {w w0 : World} {F : List LV} {H : List AB} {a : Act}
theorem RD.move {Z Z':Nat->Prop}{w w':World}(hZ:∀b,Z b->Z' b) (hw:∀b,Z b->w'.heap[b]? =w.heap[b]?):
  ∀(t:Ty) (d:t.D) (b o b' o':Nat),(∀j,j<t.n->w'.cell? ⟨b',o'+j,aj⟩=w.cell? ⟨b,o+j,aj⟩)->RD Z w t d b o->RD Z' w' t d b' o'
 | .int _,_,b,o,b',o',hb,h=>VF
 | .bool,_,b,o,b',o',hb,h=>VF
 | .str,_,b,o,b',o',hb,h=>VF
 | .sl e,l,b,o,b',o',hb,h=>by
  exact aLE
 | .pair x y,d,b,o,b',o',hb,h=>by
  refine ⟨RD.move hZ hw x d.1 b o b' o' (λj hj=>hb j lM) h.1,RD.move hZ hw y d.2 b _ b' _ (λj hj=>?_) h.2⟩
  have:=hb (x.n+j) lM
  grind
theorem RD.one {Z:Nat->Prop}{w:World}:∀(t:Ty) (d:t.D) (b o:Nat),RD Z w t d b o->∀j,j<t.n->∃v,w.cell? ⟨b,o+j,aj⟩=ah v/\Jh v=U
 | .int _,_,b,o,h,j,hj=>by
  exact xP
 | .bool,_,b,o,h,j,hj=>by
  exact xP
 | .str,_,b,o,h,j,hj=>by
  exact xP
 | .sl e,_,b,o,h,j,hj=>by
  simp only [Ty.n] at hj
  have:j=0:=A0
  subst this;obtain ⟨a,cap,h1,_⟩:=h;exact ⟨_,h1,rfl⟩
 | .pair x y,d,b,o,h,j,hj=>by
  simp only [Ty.n] at hj
  by_cases hx:j<x.n
  ·exact RD.one x d.1 b o h.1 j hx
  ·obtain ⟨v,h1,h2⟩:=RD.one y d.2 b (o+x.n) h.2 (j-x.n) A0
   grind
def Ty.n_pos:∀t:Ty,0<t.n
 | .int _=>Zq
 | .bool=>Zq
 | .str=>Zq
 | .sl _=>Zq
 | .pair a b=>by have:=Ty.n_pos a;simp only [Ty.n];omega
theorem aDV {e:Ty}{l:List e.D}{b o:Nat}(h:∀(i:Nat) (d:e.D),l[i]? =ah d->RD Z w e d b (o+i*e.n)):
  ∃vs:List Value,M vs=M l*e.n/\(∀j,j<M l*e.n->w.cell? ⟨b,o+j,aj⟩=vs[j]?)/\(∀u∈vs,Jh u=U):=by
 have hp:=e.n_pos
 have hch:∀j,∃v,j<M l*e.n->w.cell? ⟨b,o+j,aj⟩=ah v/\Jh v=true:=λj=>by
  by_cases hj:j<M l*e.n
  ·have hi:=Nat.div_lt_of_lt_mul (by rw [Nat.mul_comm];exact hj)
   have hd:=h (j / e.n) _<|getD_at hi
   obtain ⟨v,h1,h2⟩:=RD.one e _ _ _ hd (j%e.n)<|Nat.mod_lt _ hp;refine ⟨v,λ_=>⟨?_,h2⟩⟩
   have:=Nat.div_add_mod j e.n
   grind
  ·exact ⟨undef,λh=>absurd h hj⟩
 obtain ⟨g,hg⟩:=we hch;refine ⟨(au<|M l*e.n).map g,AJ,λj hj=>?_,λu hu=>?_⟩
 ·grind
 ·obtain ⟨j,hj,rfl⟩:=Eg.1 hu
  grind
theorem aEe {Z':Nat->Prop}{w':World}(hZ:∀b,Z b->Z' b) (hw:∀b,Z b->w'.heap[b]? =w.heap[b]?) {e:Ty}{l:List e.D}{b o b' o':Nat}(h:∀(i:Nat) (d:e.D),l[i]? =ah d->RD Z w e d b (o+i*e.n)) {vs:List Value}
  (hv:∀j,j<M l*e.n->w.cell? ⟨b,o+j,aj⟩=vs[j]?) (hc:∀j,j<M l*e.n->w'.cell? ⟨b',o'+j,aj⟩=vs[j]?):∀(i:Nat) (d:e.D),l[i]? =ah d->RD Z' w' e d b' (o'+i*e.n):=λi d hd=>by
 have hi:=(Du.1 hd).1
 refine RD.move hZ hw e d b (o+i*e.n) b' (o'+i*e.n) (λj hj=>?_)<|h i d hd
 have hlt:i*e.n+j<M l*e.n:=by
  have:=N2 e.n (show i+1<=M l by omega)
  rw [Fu,SY] at this;omega
 grind
theorem aoq {e:Ty}{x:LV}{q:List e.D}{y:Value}(hW:RW G w0 Z0 Z β H w) (h:(F7 H e x).all λz=>z=q) (hr:R β Z w x y):
  ∃a c,y=.slice a (M q) c/\(0<M q->∃b o,a=ah ⟨b,o,aj⟩/\∀(i:Nat) (d:e.D),q[i]? =ah d->RD Z w e d b (o+i*e.n)):=by
 have gen:∀x,Mt e x=ah q->R β Z w x y->∃a c,y=.slice a (M q) c/\(0<M q->∃b o,a=ah ⟨b,o,aj⟩/\∀(i:Nat) (d:e.D),q[i]? =ah d->RD Z w e d b (o+i*e.n)):=λx hx hr=>by
  have h1:=ti hx hr
  obtain ⟨a,c,h1,_,h3⟩:=h1;refine ⟨a,c,h1,λhn=>?_⟩
  grind
 have hdx:∀ {x:LV},(match Mt e x with|some l=>(T.ok l:T<|List e.D) |none=> .no).all (λz=>z=q)->Mt e x=ah q:=λ{x} h=>by
  split at h
  ·rename_i hd;simp only [T.all] at h;rw [hd,h]
  ·cases h
 cases x with
 | os k es off n=>
  simp only [F7] at h;split at h
  ·rename_i c0 bt e' l pp hb
   split at h
   ·rename_i hes
    split at h
    ·rename_i he _
     subst he;simp only [T.all,KW] at h;obtain ⟨hle,h⟩:=h;subst h
     have hlen:M ((l.drop off).take n)=n:=A8
     rw [hlen];simp only [R] at hr;split at hr
     ·obtain ⟨rfl,_,hy⟩:=hr
      grind
     ·rename_i c hc
      obtain ⟨h1,a,h2,h3⟩:=hr;refine ⟨ah a,c-off,h2,λhn=>?_⟩
      have h4:=(hW.blk k _ hb).1
      simp only [BX,hc] at h4;obtain ⟨cs,g1,g2,g3,g4⟩:=h4;refine ⟨_,_,by rw [h3 A0],λi d hd=>?_⟩
      rw [L1] at hd;split at hd
      ·rw [Ew] at hd
       have:=g4 (off+i) d hd
       rw [<-hes];rw [Fu,<-HO] at this;exact this
      ·cases hd
    ·cases h
   ·cases h
  ·cases h
 |v x=>simp only [F7] at h;exact gen _ (hdx h) hr
 |bl x=>simp only [F7] at h;exact gen _ (hdx h) hr
 |ki k n=>simp only [F7] at h;exact gen _ (hdx h) hr
 |own k off=>simp only [F7] at h;exact gen _ (hdx h) hr
 |agg l=>simp only [F7] at h;exact gen _ (hdx h) hr
 |AM l=>simp only [F7] at h;exact gen _ (hdx h) hr
 |fn f l=>simp only [F7] at h;exact gen _ (hdx h) hr
 |fb f l=>simp only [F7] at h;exact gen _ (hdx h) hr
 |xq n f=>simp only [F7] at h;exact gen _ (hdx h) hr
 |xl e l=>simp only [F7] at h;exact gen _ (hdx h) hr
 |op k es i j=>simp only [F7] at h;exact gen _ (hdx h) hr
 |om k=>simp only [F7] at h;exact gen _ (hdx h) hr
 |mp kd ks vs=>simp only [F7] at h;exact gen _ (hdx h) hr
 |oc k es off n c=>simp only [F7] at h;exact gen _ (hdx h) hr
 |CO k=>simp only [F7] at h;exact gen _ (hdx h) hr
 |junk=>simp only [F7] at h;exact gen _ (hdx h) hr
def nK {t e:TypeId}{ty:Ty}{m Er:Nat}(h:PG P t=ah (e,ty,m,Er)):P.underlying t=ah (.slice e)/\ty.n=m/\∃i,P.info? e=ah i/\i.size=m/\i.bytes=Er:=by
 unfold PG at h;split at h
 ·rename_i e' hu
  split at h
  ·rename_i ty' m' b' h1 h2 h3
   split at h
   ·rename_i hm
    simp only [Af,Aw] at h;obtain ⟨rfl,rfl,rfl,rfl⟩:=h;refine ⟨hu,hm.1,?_⟩;unfold Gs at h2;unfold aRh at h3;cases hi:P.info? e' with
    |none=>simp [hi] at h2
    |some i=>simp [hi] at h2 h3;exact ⟨i,rfl,h2,h3⟩
   ·cases h
  ·cases h
 ·cases h
theorem aDl {e:Ty}{x:LV}{q:List e.D}{y:Value}{tx e':TypeId}(hk:P.underlying tx=ah (.slice e')) (hW:RW G w0 Z0 Z β H w) (h:(F7 H e x).all λz=>z=q) (hr:R β Z w x y):
  ∃news:List Value,Src P e.n tx y (M q) news w/\∀(Z':Nat->Prop) (w':World) (b' o':Nat),(∀b,Z b->Z' b)->(∀b,Z b->w'.heap[b]? =w.heap[b]?)->(∀j,j<M news->w'.cell? ⟨b',o'+j,aj⟩=news[j]?)->∀(i:Nat) (d:e.D),q[i]? =ah d->RD Z' w' e d b' (o'+i*e.n):=by
 obtain ⟨a,c,h1,h2⟩:=aoq hW h hr
 by_cases hn:0<M q
 ·obtain ⟨b,o,h3,h4⟩:=h2 hn
  obtain ⟨vs,v1,v2,v3⟩:=aDV h4;refine ⟨vs,?_,λZ' w' b' o' hZ hw hc=>aEe hZ hw h4 v2 λj hj=>hc j A0⟩
  rw [h1,h3]
  exact Src.ofSlice w hk ⟨b,o,aj⟩ _ c vs v1 (λj u hu=>by
   have hj:j<M q*e.n:=A8
   rw [addr_add,v2 j hj,hu]) λu hu=>oo<|v3 u hu
 ·have hq:q=[]:=M4.1 A0
  subst hq;refine ⟨[],?_,λZ' w' b' o' hZ hw hc i d hd=>A8⟩
  rw [h1];cases a with
  |none=>exact Src.ofNil w hk c
  |some a=>exact Src.ofSlice w hk a 0 c [] AJ (λj u hu=>A8) λu hu=>by cases hu
def aft {ty:Ty}{z:Value}{d:ty.D}(hd:Je ty (z.cells.toList.map .v)=ah d) {w':World}{b o:Nat}(hc:∀(j:Nat) v,z.cells.toList[j]? =ah v->w'.cell? ⟨b,o+j,aj⟩=ah v):RD Z w' ty d b o:=
 tl (Z:=Z) (w:=w') (β:=λ_=>default) (λ_ h=>h) (λ_ _=>rfl) ty _ d _ hd (UY _) b o hc
theorem aeE {t:TypeId} {n c lv:LV} {vn vc:Value} {H':List AB} (hW:RW G w0 Z0 Z β H w) (h:(Te P H t n c).all λq=>q=(lv,H')) (hn:R β Z w n vn) (hc:R β Z w c vc):
  ∃w' v,(Instr.makeSlice t vn vc).run P w=.ok v w'/\Below w.heap.size w w'/\∃β',(∀k,k<M H->β' k=β k)/\RW G w0 Z0 Z β' H' w'/\R β' Z w' lv v/\okV (M H') lv/\M H'=M H+1/\(β'<|M H).b=w.heap.size:=by
 unfold Te at h;split at h
 ·rename_i e ty m Er n' c' he hn' hc'
  obtain ⟨hu,htn,i,hi,him,hib⟩:=nK he;split at h
  ·rename_i z hz
   split at h
   ·rename_i d hd
    split at h
    ·rename_i hzs
     simp only [T.all] at h;obtain ⟨⟨h0,h1,h2,h3⟩,h4⟩:=h;obtain ⟨rfl,rfl⟩:=h4
     have hzi:i.zero=ah z:=aN7
     have hrun:=run_make (P:=P) w t e i z hu hi hzi J J n' c' h0 h1 (by rw [hib];simpa using h2) A0
     rw [Cf hn' hn,Cf hc' hc]
     have hbw:Below w.heap.size w (w.alloc<|.cells (madeCells z.cells<|c'.toNat*i.size) e):=(Below.refl _ _).alloc (Av _) _
     have hblk:(w.alloc<|.cells (madeCells z.cells<|c'.toNat*i.size) e).heap[w.heap.size]? =ah (.cells (madeCells z.cells<|c'.toNat*i.size) e (0,0)):=by
      exact Ze
     obtain ⟨β',b1,b2,b3⟩:=(hW.same hbw).KM (ℓ:=⟨w.heap.size,0,ah c'.toNat⟩) (nb:=⟨[],e,.vec ty<|aq n'.toNat d,X⟩) rfl ⟨ak,ak⟩
      (λ_=>⟨λhz=>Zy,hW.below.size,λj bj hj lj e=>Sj⟩) (λβ' g1 g2=>by
       simp only [BX,g2];refine ⟨_,hblk,by simp [madeCells,htn,him],D2,λj d' hd'=>?_⟩
       have hj:j<n'.toNat:=A8
       have hdd:d'=d:=A8
       subst hdd;refine aft hd λp v hv=>?_
       have hp:p<m:=A8
       rw [cell_of_block hblk]
       have hlt:0+j*ty.n+p<c'.toNat*i.size:=by
        have:=N2 m (show j+1<=c'.toNat by omega)
        rw [Fu,SY] at this;rw [htn,him];omega
       rw [madeCells]
       have hv':z.cells[p]? =ah v:=by simpa using hv
       rw [htn,EK] at hlt|-;simp only [Array.getElem?_map,Array.getElem?_range];rw [AD hlt];simp only [JG,hzs,Nat.mul_comm j m,Nat.mul_add_mod,Nat.mod_eq_of_lt hp];rw [getElem!_def,hv'])
     exact ⟨_,_,hrun,hbw,β',b1,b3,by simp only [R,b2];exact ⟨D2,⟨w.heap.size,0,aj⟩,AJ,λ_=>AJ⟩,MA,AJ,VS⟩
    ·cases h
   ·cases h
  ·cases h
 ·cases h
theorem aeA {t:TypeId}{lv:LV}{H':List AB}(hW:RW G w0 Z0 Z β H w) (h:(Wl P H t).all λq=>q=(lv,H')):
  ∃w' v,(Instr.buildSlice t 0 #[]).run P w=.ok v w'/\Below w.heap.size w w'/\∃β',(∀k,k<M H->β' k=β k)/\RW G w0 Z0 Z β' H' w'/\R β' Z w' lv v/\okV (M H') lv/\M H'=M H+1/\(β'<|M H).b=w.heap.size:=by
 unfold Wl at h;split at h
 ·rename_i e ty m Er he
  obtain ⟨hu,htn,i,hi,him,hib⟩:=nK he;obtain ⟨rfl,rfl⟩:=h
  have hbw:Below w.heap.size w (w.alloc<|.cells #[] e):=(Below.refl _ _).alloc (Av _) _
  have hblk:(w.alloc<|.cells #[] e).heap[w.heap.size]? =ah (.cells #[] e (0,0)):=by
   exact Ze
  obtain ⟨β',b1,b2,b3⟩:=(hW.same hbw).KM (ℓ:=⟨w.heap.size,0,ah 0⟩) (nb:=⟨[],e,.vec ty [],X⟩) rfl ⟨ak,ak⟩
   (λ_=>⟨λhz=>Zy,hW.below.size,λj bj hj lj e=>Sj⟩) (λβ' g1 g2=>by
    simp only [BX,g2];exact ⟨_,hblk,AJ,AJ,λj d hd=>A8⟩)
  have hsz:Gs P e=ah m:=by unfold Gs;simp [hi,him]
  refine ⟨_,.slice (ah ⟨w.heap.size,0,aj⟩) 0 0,?_,hbw,β',b1,b3,by simp only [R,b2];exact ⟨AJ,⟨w.heap.size,0,aj⟩,rfl,λh=>A8⟩,MA,AJ,VS⟩
  have e1:=λw=>run_sizeOf hsz w
  have n1:¬(0>2^24):=Aa
  have ha:∀f:Nat->Value,(Array.range 0).map f=#[]:=λf=>AJ
  simp only [Instr.buildSlice,kC,CY hu,kH,e1,kW,xG,newRow,AE n1,Bm,ha];rfl
 ·cases h
theorem RW.kill (hW:RW G w0 Z0 Z β H w) (k:Nat) (e:TypeId):RW G w0 Z0 Z β (H.set k ⟨[],e,.dead,X⟩) w:=by
 have old:∀i bi,(H.set k ⟨[],e,.dead,X⟩)[i]? =ah bi->(¬live β i bi/\BX β Z w i bi/\okB (M H) bi)\/H[i]? =ah bi:=λi bi h=>by
  rw [Hx] at h;split at h
  ·rename_i e'
   split at h
   ·simp only [Af] at h;subst h;exact .inl ⟨λh=>h,ak,ak,ak⟩
   ·cases h
  ·exact .inr h
 refine ⟨hW.below,hW.BY,hW.ET,λi bi hi li pi=>?_,λi bi hi li pi=>?_,λi bi hi li=>?_,λi j bi bj hi hj li lj pi e=>?_,λi bi hi=>?_,hW.CZ,λp hp=>⟨(hW.gh p hp).1,aNQ⟩,hW.Ck⟩
 ·rcases old i bi hi with h|h
  ·grind
  ·exact hW.Ci i bi h li pi
 ·rcases old i bi hi with h|h
  ·grind
  ·exact hW.Fz i bi h li pi
 ·rcases old i bi hi with h|h
  ·grind
  ·exact hW.low i bi h li
 ·rcases old i bi hi with h|h
  ·grind
  ·rcases old j bj hj with h'|h'
   ·grind
   ·exact hW.inj i j bi bj h h' li lj pi e
 ·rw [CL]
  rcases old i bi hi with h|h
  ·grind
  ·exact hW.blk i bi h
def RW.loose {w':World}{B:Nat}(hW:RW G w0 Z0 Z β H w) (hB:w0.heap.size<=B) (hBZ:¬Z B) (hBo:∀j bj,H[j]? =ah bj->live β j bj->(β j).b≠B)
  (hsz:w'.heap.size=w.heap.size) (hos:w'.os=w.os/\w'.tape=w.tape/\w'.output=w.output) (hne:∀j,j≠B->w'.heap[j]? =w.heap[j]?):RW G w0 Z0 Z β H w':=by
 have hw:∀b',Z b'->w'.heap[b']? =w.heap[b']? :=λb' hz=>hne b' λe=>hBZ<|e▸hz
 refine ⟨?_,λb' hz=>aNP,hW.ET,hW.Ci,hW.Fz,hW.low,hW.inj,λi bi hi=>?_,hW.CZ.mono (λ_ h=>h) hw,λp hp=>⟨R.mono (n:=M H) (λ_ _=>rfl) (λ_ h=>h) hw _ _ (hW.gh p hp).2 (hW.gh p hp).1,(hW.gh p hp).2⟩,λD hD=>⟨(hW.Ck D hD).1,Zs⟩⟩
 ·exact hW.below.trans ⟨hos.1,hos.2.1,hos.2.2,kV hsz.symm,λi hi=>hne i A0⟩
 ·obtain ⟨g1,g2⟩:=hW.blk i bi hi
  exact ⟨g1.keep (λ_ _=>rfl) (λ_ h=>h) hw rfl (λli=>hne _<|hBo i bi hi li) g2,g2⟩
def adg (z:Array Value) (n:Nat):(Builtin.zeroCells z n).size=n*z.size:=by simp [Builtin.zeroCells]
def Back (Z:Nat->Prop) (w:World) (e:Ty) (l:List e.D) (vs:List Value):Prop:=
 ∀(Z':Nat->Prop) (w':World) (b' o':Nat),(∀b,Z b->Z' b)->(∀b,Z b->w'.heap[b]? =w.heap[b]?)->(∀j,j<M vs->w'.cell? ⟨b',o'+j,aj⟩=vs[j]?)->∀(i:Nat) (d:e.D),l[i]? =ah d->RD Z' w' e d b' (o'+i*e.n)
theorem aD0 (hW:RW G w0 Z0 Z β H w) {t tx ty' e:TypeId}{i:TypeInfo}{z:Value}(hu:P.underlying t=ah (.slice e)) (hi:P.info? e=ah i) (hz:i.zero=ah z) {ty:Ty}(hts:i.size=ty.n) (hzs:z.cells.size=ty.n)
  {base:Option Addr} {sCap:Nat} {olds:List Value} {lo q:List ty.D} (hold:(Builtin.firstCells i.size (M lo)<|.slice base (M lo) sCap).run P w.drew=.ok olds.toArray w.drew) (hol:M olds=M lo*ty.n)
  (ob:Back Z w ty lo olds) {y:Value} {news:List Value} (hs:Src P ty.n tx y (M q) news w) (nb:Back Z w ty q news) (hg:sCap<M lo+M q)
  (h63:((M lo+M q:Nat):Int)<2^62) (hby:((M lo+M q:Nat):Int)*i.bytes<=2^47):
  ∃w' v,(Builtin.append_ #[t,tx] ty' #[.slice base (M lo) sCap,y]).run P w=.ok v w'/\Below w.heap.size w w'/\∃β',(∀k,k<M H->β' k=β k)/\RW G w0 Z0 Z β' (H++[⟨[],e,.vec ty<|lo++q,X⟩]) w'/\
   R β' Z w' (.os (M H) ty.n 0<|M lo+M q) v/\(β'<|M H).b=w.heap.size:=by
 have hnl:=hs.newsLen
 have hrun:=run_append_grow_src (P:=P) w t tx ty' e i z hu hi hz base (M lo) sCap olds hold y (M q) news (by rw [hts];exact hs) hg A0<|growslice_fits hg (by
  omega)
 have hcap:=grownCap_ge w (M lo+M q) sCap e
 generalize grownCap w (M lo+M q) sCap e=cap at hrun hcap;generalize hcs:((olds++news).toArray++Builtin.zeroCells z.cells (cap-(M lo+M q)))=cs at hrun
 have hbw:Below w.heap.size w (w.drew.alloc<|.cells cs e):=⟨rfl,rfl,rfl,by simp [World.alloc],λk hk=>heap_alloc_old w.drew _ hk⟩
 have hblk:(w.drew.alloc<|.cells cs e).heap[w.heap.size]? =ah (.cells cs e (0,0)):=heap_alloc_new w.drew _
 have hw:∀b,Z b->(w.drew.alloc<|.cells cs e).heap[b]? =w.heap[b]? :=λb hz=>Dv hbw<|hW.BY b hz
 have hc1:∀j,j<M olds->cs[j]? =olds[j]? :=λj hj=>by
  rw [<-hcs,x7 D2];simp only [ZC]
  grind
 have hc2:∀j,j<M news->cs[M olds+j]? =news[j]? :=λj hj=>by
  rw [<-hcs,x7 D2];simp only [ZC];rw [GC A0]
  congr 1
  omega
 obtain ⟨β',b1,b2,b3⟩:=(hW.same hbw).KM (ℓ:=⟨w.heap.size,0,ah cap⟩) (nb:=⟨[],e,.vec ty<|lo++q,X⟩) rfl ⟨ak,ak⟩
  (λ_=>⟨λhz=>A8,hW.below.size,λj bj hj lj e=>Sj⟩) (λβ' g1 g2=>by
   simp only [BX,g2];refine ⟨cs,hblk,?_,by rw [BD];omega,λj d hd=>?_⟩
   ·rw [<-hcs]
    have h1:cap*ty.n=(M lo+M q)*ty.n+(cap-(M lo+M q))*ty.n:=by
     rw [<-Fu];congr 1;omega
    simp only [Array.size_append,adg,hzs,List.size_toArray,BD,hol,hnl];rw [h1,Fu];omega
   ·by_cases hj:j<M lo
    ·rw [HL hj] at hd
     exact ob Z _ w.heap.size 0 (λ_ h=>h) hw (λp hp=>by rw [cell_of_block hblk,EK,hc1 p hp]) j d hd
    ·rw [GC A0] at hd
     have:=nb Z _ w.heap.size (0+M olds) (λ_ h=>h) hw (λp hp=>by rw [cell_of_block hblk,EK,hc2 p hp]) _ d hd
     rw [hol,EK,<-Fu] at this;rw [show M lo+(j-M lo)=j by omega] at this
     rw [EK];exact this)
 exact ⟨_,_,hrun,hbw,β',b1,b3,aMf,VS⟩
def size_setCells (b:Nat):∀(vs:List Value) (o:Nat) (w:World),(w.setCells b o vs).heap.size=w.heap.size
 | [],_,_=>rfl
 |v::r,o,w=>by rw [World.setCells,size_setCells b r];simp
def ad7 (b:Nat):∀(vs:List Value) (o:Nat) (w:World),(w.setCells b o vs).tape=w.tape
 | [],_,_=>rfl
 |v::r,o,w=>by rw [World.setCells,ad7 b r];rfl
def adn (w:World) (g o:Nat) (vs:List Value) {i:Nat}(hne:i≠g):(w.setCells g o vs).heap[i]? =w.heap[i]? :=by
 by_cases hi:i<w.heap.size
 ·exact World.heap_setCells_other w g o vs hi hne
 ·rw [wh (by rw [size_setCells];omega),wh A0]
theorem acw (b:Nat) (t:TypeId):∀(vs:List Value) (o:Nat) (w:World) (cs:Array Value),w.heap[b]? =ah (.cells cs t (0,0))->∃cs',(w.setCells b o vs).heap[b]? =ah (.cells cs' t (0,0))/\cs'.size=cs.size
 | [],_,w,cs,h=>⟨cs,h,rfl⟩
 | v::r,o,w,cs,h=>by
  have h1:(w.setCell ⟨b,o,aj⟩ v).heap[b]? =ah (.cells (cs.setIfInBounds o v) t (0,0)):=by
   simp [World.setCell,Array.getElem?_modify,h]
  obtain ⟨cs',h2,h3⟩:=acw b t r (o+1) _ _ h1;exact ⟨cs',h2,A8⟩
theorem aee (hW:RW G w0 Z0 Z β H w) {t tx ty' e:TypeId}{i:TypeInfo}(hu:P.underlying t=ah (.slice e)) (hkx:∃e',P.underlying tx=ah (.slice e')) (hi:P.info? e=ah i) {ty:Ty}(him:i.size=ty.n)
  {B O c:Nat} {ad:Addr} {lo q:List ty.D} {cs:Array Value} (g1:w.heap[B]? =ah (.cells cs e (0,0))) (g2:O+c*ty.n<=cs.size) (had:0<c->ad=⟨B,O,aj⟩)
  (hB0:w0.heap.size<=B) (hBZ:¬Z B) (hBo:∀j bj,H[j]? =ah bj->live β j bj->(β j).b≠B)
  (olde:∀(j:Nat) (d:ty.D),lo[j]? =ah d->RD Z w ty d B (O+j*ty.n)) {y:Value} {news:List Value} (hs:Src P ty.n tx y (M q) news w) (nb:Back Z w ty q news) (hroom:M lo+M q<=c):
  ∃w' v,(Builtin.append_ #[t,tx] ty' #[.slice (ah ad) (M lo) c,y]).run P w=.ok v w'/\(w'.os=w.os/\w'.tape=w.tape/\w'.output=w.output/\w'.heap.size=w.heap.size)/\(∀j,j≠B->w'.heap[j]? =w.heap[j]?)/\
   ∃β',(∀k,k<M H->β' k=β k)/\RW G w0 Z0 Z β' (H++[⟨[],e,.vec ty<|lo++q,X⟩]) w'/\R β' Z w' (.os (M H) ty.n 0<|M lo+M q) v/\(β'<|M H).b=B:=by
 have hnl:=hs.newsLen
 have hmr:M lo*ty.n+M q*ty.n<=c*ty.n:=by rw [<-Fu];exact N2 _ hroom
 have hrun:(Builtin.append_ #[t,tx] ty' #[.slice (ah ad) (M lo) c,y]).run P w=.ok (.slice (ah ad) (M lo+M q) c) (w.setCells B (O+M lo*ty.n) news):=by
  by_cases hc0:0<c
  ·rw [had hc0]
   have:=run_append_room_src (P:=P) w t tx ty' e i hu hi B O (M lo) c y (M q) news (by rw [him];exact hs) hroom (λj hj=>by
    rw [cell_of_block g1,him]
    have:O+M lo*ty.n+j<cs.size:=A0
    simp [this]) λj hj=>azy g1 _
   rw [him] at this;exact this
  ·have hn0:M lo=0:=A0
   have hq0:M q=0:=A0
   have hnn:news=[]:=M4.1 (by rw [hnl,hq0];simp)
   have hl:=hs.len
   have hc:=hs.cells
   rw [hq0] at hl hc;subst hnn;rw [hq0,hn0];obtain ⟨e',hk⟩:=hkx
   simp [Builtin.append_,CY hu,CY hk,sizeOf,typeInfo,hi,hl,him,hc,World.setCells,storeCells]
 have hne:∀j,j≠B->(w.setCells B (O+M lo*ty.n) news).heap[j]? =w.heap[j]? :=λj hj=>adn w _ _ _ hj
 have hZw:∀b',Z b'->(w.setCells B (O+M lo*ty.n) news).heap[b']? =w.heap[b']? :=λb' hz=>hne b' λe=>hBZ<|e▸hz
 have hin:=World.cell?_setCells_in B news (O+M lo*ty.n) w (λj hj=>by
  rw [cell_of_block g1]
  have:O+M lo*ty.n+j<cs.size:=A0
  simp [this])
 have hout:=λj (hj:j<O+M lo*ty.n)=>World.cell?_setCells_out B news (O+M lo*ty.n) w ⟨B,j,aj⟩ λ_ _=> .inl hj
 obtain ⟨cs',q1,q2⟩:=acw B e news (O+M lo*ty.n) w cs g1
 have hos:=World.os_setCells w B (O+M lo*ty.n) news
 have hot:=World.output_setCells w B (O+M lo*ty.n) news
 have htp:=ad7 B news (O+M lo*ty.n) w
 have hsz:=size_setCells B news (O+M lo*ty.n) w
 generalize w.setCells B (O+M lo*ty.n) news=w' at hrun hne hZw hin hout q1 hos hot htp hsz
 have hW2:=hW.loose hB0 hBZ hBo hsz ⟨hos,htp,hot⟩ hne
 obtain ⟨β',b1,b2,b3⟩:=hW2.KM (ℓ:=⟨B,O,ah c⟩) (nb:=⟨[],e,.vec ty<|lo++q,X⟩) rfl ⟨ak,ak⟩ (λ_=>⟨hBZ,hB0,hBo⟩) (λβ' f1 f2=>by
  simp only [BX,f2];refine ⟨cs',q1,A0,by rw [BD];exact hroom,λj d hd=>?_⟩
  by_cases hj:j<M lo
  ·rw [HL hj] at hd
   refine RD.move (λ_ h=>h) hZw ty d _ _ _ _ (λp hp=>?_)<|olde j d hd
   have:=N2 ty.n (show j+1<=M lo by omega)
   rw [Fu,SY] at this;exact hout _ A0
  ·rw [GC A0] at hd
   have:=nb Z w' B (O+M lo*ty.n) (λ_ h=>h) hZw (λp hp=>by rw [hin p hp,DR hp]) _ d hd
   rw [HO O,<-Fu,show M lo+(j-M lo)=j by omega] at this
   exact this)
 refine ⟨w',_,hrun,⟨hos,htp,hot,hsz⟩,hne,β',b1,b3,?_,VS⟩;simp only [R,b2]
 grind
theorem T.B2 {α γ:Type}{t:T α}{k:α->T γ}{y:γ}(h:(t.bind k).all λz=>z=y):∃x,t.all (λz=>z=x)/\(k x).all (λz=>z=y):=by
 rw [T.all_bind] at h;obtain ⟨x,h1,h2⟩:=T.pick h
 grind
def adv {t tx ty':TypeId} {x y lv:LV} {vx vy:Value} {H':List AB} (hW:RW G w0 Z0 Z β H w) (h:(LD P H t tx x y).all λq=>q=(lv,H')) (hx:R β Z w x vx) (hy:R β Z w y vy):
  ∃w' v,(Builtin.append_ #[t,tx] ty' #[vx,vy]).run P w=.ok v w'/\DL (DN β H<|owns x) w w'/\(∀b,Z b->w'.heap[b]? =w.heap[b]?)/\∃β',(∀k,k<M H->β' k=β k)/\RW G w0 Z0 Z β' H' w'/\R β' Z w' lv v/\okV (M H') lv/\
   (M H')=M H+1/\(w.heap.size<=(β'<|M H).b\/(β'<|M H).b∈DN β H (owns x)):=by
 unfold LD at h;split at h
 ·rename_i e ty m Er he
  obtain ⟨hu,htn,i,hi,him,hib⟩:=nK he;split at h
  ·rename_i e2 z hkx hz
   have hzi:i.zero=ah z:=aN7
   split at h
   ·rename_i hzs
    obtain ⟨q,hq,hnew⟩:=T.B2 h
    clear h
    have h:=hnew
    clear hnew
    ·obtain ⟨news,hs,nb⟩:=aDl hkx hW hq hy
     have hnl:=hs.newsLen
     subst htn
     have nil:∀(H1:List AB),RW G w0 Z0 Z β H1 w->(M q:Int)*Er<=2^47->(M q:Int)<2^62->
       ∃w' v,(Builtin.append_ #[t,tx] ty' #[.slice aj 0 0,vy]).run P w=.ok v w'/\Below w.heap.size w w'/\∃β',(∀k,k<M H1->β' k=β k)/\RW G w0 Z0 Z β' (H1++[⟨[],e,.vec ty q,X⟩]) w'/\R β' Z w' (.os (M H1) ty.n 0<|M q) v/\(β'<|M H1).b=w.heap.size:=λH1 hW1 hby h62=>by
      by_cases hq0:0<M q
      ·have:=aD0 (P:=P) (ty':=ty') hW1 hu hi hzi him hzs (base:=aj) (sCap:=0) (olds:=[]) (lo:=[]) (q:=q) (by simpa using run_firstCells_none (P:=P) w.drew i.size 0 0 0) AJ (λ_ _ _ _ _ _ _ i d hd=>by simp at hd) hs nb (by simpa using hq0) (by simpa using h62) (by rw [hib];simpa using hby)
       exact Py
      ·have hqn:q=[]:=M4.1 A0
       subst hqn
       have hn0:news=[]:=M4.1<|by simpa using hnl
       subst hn0;obtain ⟨β',b1,b2,b3⟩:=hW1.KM (ℓ:=⟨w.heap.size,0,aj⟩) (nb:=⟨[],e,.vec ty [],X⟩) rfl ⟨ak,ak⟩ (λhl=>absurd rfl hl) λβ' g1 g2=>yK
       refine ⟨w,.slice aj 0 0,?_,Below.refl _ _,β',b1,b3,by simp [R,b2],VS⟩
       have hl:=hs.len
       have hc:=hs.cells
       simp only [Bp] at hl hc
       simp [Builtin.append_,CY hu,CY hkx,sizeOf,typeInfo,hi,hl,him,hc]
     split at h
     ·simp only [T.all] at h
      obtain ⟨⟨h1,h2⟩,h3⟩:=h;simp only [Aw] at h3;obtain ⟨rfl,rfl⟩:=h3;simp only [R] at hx;subst hx;obtain ⟨w',v,r1,r2,β',r3,r4,r5,r6⟩:=nil H hW h1 h2;exact ⟨w',v,r1,⟨r2.os,r2.tape,r2.output,r2.size,λk hk _=>r2.block k hk⟩,λb hz=>Dv r2<|hW.BY b hz,β',r3,r4,r5,MA,AJ,.inl A0⟩
     ·rename_i k es off n
      split at h
      ·rename_i c0 bt e' l hb
       split at h
       ·rename_i hee _
        have hee':=hee.symm
        subst hee';split at h
        ·rename_i hes
         obtain ⟨rfl,rfl⟩:=hes;simp only [T.all] at h;obtain ⟨⟨hlen,hby,h62⟩,h3⟩:=h;simp only [Aw,KW] at h3;obtain ⟨rfl,rfl⟩:=h3
         have hkl:k<M H:=(Du.1 hb).1
         have hW1:=hW.kill k bt
         have hblk:=(hW.blk k _ hb).1
         simp only [R] at hx;split at hx
         ·rename_i hcap
          obtain ⟨rfl,rfl,rfl⟩:=hx;simp only [BX,hcap] at hblk;subst hblk;obtain ⟨w',v,r1,r2,β',r3,r4,r5,r6⟩:=nil _ hW1 (by simpa using hby)<|by simpa using h62
          simp only [CL] at r3 r5 r6;exact ⟨w',v,r1,⟨r2.os,r2.tape,r2.output,r2.size,λk hk _=>r2.block k hk⟩,λb hz=>Dv r2<|hW.BY b hz,β',r3,by simpa using r4,by simpa using r5,MA,AJ,.inl A0⟩
         ·rename_i c hcap
          obtain ⟨hoc,ad,hvx,had⟩:=hx;subst hvx;simp only [BX,hcap] at hblk;obtain ⟨cs,g1,g2,g3,g4⟩:=hblk
          have hlive:live β k ⟨c0,bt,.vec ty l,X⟩:=by simp [live,hcap]
          have hB0:=hW.low k _ hb hlive
          have hBZ:=hW.Ci k _ hb hlive rfl
          have hBo:∀j bj,(H.set k ⟨[],bt,.dead,X⟩)[j]? =ah bj->live β j bj->(β j).b≠(β k).b:=λj bj hj lj e=>by
           rw [Hx] at hj;split at hj
           ·first
            | (split at hj
               ·simp only [Af] at hj;subst hj;exact lj
               ·cases hj)
            |(simp only [Af] at hj;subst hj;exact lj)
           ·rename_i hne
            exact hne<|hW.inj k j _ bj hb hj hlive lj rfl e.symm
          have olde:∀(j:Nat) (d:ty.D),(l.drop off)[j]? =ah d->RD Z w ty d (β k).b ((β k).o+off*ty.n+j*ty.n):=λj d hd=>by
           rw [Ew] at hd
           have:=g4 (off+j) d hd
           rwa [Fu,<-HO] at this
          have hln:M (l.drop off)=n:=D2
          have hmul:off*ty.n+(c-off)*ty.n=c*ty.n:=by rw [<-Fu];congr 1;omega
          by_cases hroom:n+M q<=c-off
          ·--in place
           have hr:=aee (P:=P) (ty':=ty') hW1 hu ⟨_,hkx⟩ hi him (B:=(β k).b) (O:=(β k).o+off*ty.n) (c:=c-off) (ad:=ad) (lo:=l.drop off) (q:=q) g1 A0 had hB0 hBZ hBo olde hs nb (by rw [hln];exact hroom)
           rw [hln] at hr;obtain ⟨w',v,r1,⟨r2,r3,r4,r5⟩,r6,β',r7,r8,r9,r10⟩:=hr;simp only [CL] at r7 r9 r10;exact ⟨w',v,r1,⟨r2,r3,r4,A0,λj _ hj=>r6 j λe=>hj<|e▸TG hb hlive rfl⟩,λb' hz=>r6 b' λe=>hBZ<|e▸hz,β',r7,r8,r9,MA,AJ,.inr (by rw [r10];exact TG hb hlive rfl)⟩
          ·--a new row
           obtain ⟨olds,o1,o2,o3⟩:=aDV olde
           have hold:(Builtin.firstCells i.size n<|.slice (ah ad) n<|c-off).run P w.drew=.ok olds.toArray w.drew:=by
            by_cases hc0:0<c-off
            ·rw [had hc0,him]
             refine run_firstCells_some (P:=P) w.drew ty.n n _ n (c-off) olds (by rw [o1,hln]) λj v hv=>?_
             have hj:j<M (l.drop off)*ty.n:=by have:=(Du.1 hv).1;omega
             rw [addr_add]
             have:=o2 j hj
             rw [hv] at this;exact this
            ·have hn0:n=0:=A0
             have:olds=[]:=M4.1 (by rw [o1,hln,hn0];simp)
             rw [this,hn0]
             simp [Builtin.firstCells,loadCells,loadCellsFrom]
           have hgr:=aD0 (P:=P) (ty':=ty') hW1 hu hi hzi him hzs (base:=ah ad) (sCap:=c-off) (olds:=olds) (lo:=l.drop off) (q:=q) (by rw [hln];exact hold) o1 (λZ' w' b' o' hZ hw hc=>aEe hZ hw olde o2 λj hj=>hc j A0) hs nb (by rw [hln];omega) (by rw [hln];exact h62) (by rw [hln,hib];exact hby)
           rw [hln] at hgr;obtain ⟨w',v,r1,r2,β',r3,r4,r5,r6⟩:=hgr;simp only [CL] at r3 r5 r6;exact ⟨w',v,r1,⟨r2.os,r2.tape,r2.output,r2.size,λk hk _=>r2.block k hk⟩,λb hz=>Dv r2<|hW.BY b hz,β',r3,r4,r5,MA,AJ,.inl A0⟩
        ·cases h
       ·cases h
      ·cases h
     ·cases h
   ·cases h
  ·cases h
 ·cases h
def aeO {t tx ty':TypeId} {x y lv:LV} {vx vy:Value} {H':List AB} (hW:RW G w0 Z0 Z β H w) (h:(XR P H t tx x y).all λq=>q=(lv,H')) (hx:R β Z w x vx) (hy:R β Z w y vy):
  ∃w' v,(Builtin.copy_ #[t,tx] ty' #[vx,vy]).run P w=.ok v w'/\RW G w0 Z0 Z β H' w'/\R β Z w' lv v/\okV (M H') lv/\M H'=M H/\(∀b,Z b->w'.heap[b]? =w.heap[b]?)/\DL (DN β H<|owns x) w w':=by
 unfold XR at h;split at h
 ·rename_i e ty m Er e2 he hkx
  obtain ⟨hu,htn,i,hi,him,hib⟩:=nK he;subst htn;split at h
  ·rename_i k es n
   split at h
   ·rename_i c0 bt e' l hb
    split at h
    ·rename_i hee _
     have hee':=hee.symm
     subst hee';split at h
     ·rename_i hes
      subst hes;obtain ⟨q,hq,h⟩:=T.B2 h;obtain ⟨news,hs,nb⟩:=aDl hkx hW hq hy
      have hnl:=hs.newsLen
      simp only [T.all] at h;obtain ⟨⟨hn,hql⟩,h3⟩:=h;simp only [Aw,KW] at h3;obtain ⟨rfl,rfl⟩:=h3
      have hkl:k<M H:=(Du.1 hb).1
      obtain ⟨hblk,hbo⟩:=hW.blk k _ hb
      have hcells:=hs.cells
      have hlen:=hs.len
      have same:M q=0->H.set k ⟨c0,bt,.vec ty<|BC q l,X⟩=H:=λh0=>by
       have hq0:q=[]:=M4.1 h0
       subst hq0
       have e:H=H.set k ⟨c0,bt,.vec ty l,X⟩:=by
        apply List.ext_getElem? λj=>?_
        rw [Hx];split
        ·rename_i hj;subst hj;exact hb
        ·rfl
       simp only [BC,E7,Bp,CP];exact e.symm
      have nothing:∀(a:Option Addr) (cc:Nat),vx=.slice a n cc->M q=0->∃w' v,(Builtin.copy_ #[t,tx] ty' #[vx,vy]).run P w=.ok v w'/\RW G w0 Z0 Z β (H.set k ⟨c0,bt,.vec ty<|BC q l,X⟩) w'/\R β Z w' (.v<|Y J (M q:Int)) v/\okV (M<|H.set k ⟨c0,bt,.vec ty<|BC q l,X⟩) (.v<|Y J (M q:Int))/\M (H.set k ⟨c0,bt,.vec ty<|BC q l,X⟩)=M H/\(∀b,Z b->w'.heap[b]? =w.heap[b]?)/\DL (DN β H<|owns<|.os k ty.n 0 n) w w':=λa cc hv h0=>by
       have hnn:news=[]:=M4.1<|by rw [hnl,h0,kW]
       rw [same h0];subst hnn;rw [h0] at hcells hlen;refine ⟨w,Y J 0,?_,hW,by rw [h0];simp only [R];rfl,ak,rfl,λ_ _=>rfl,DL.refl _ _⟩
       rw [hv];cases a<;>simp [Builtin.copy_,CY hu,hlen,sizeOf,typeInfo,hi,him,hcells,storeCells,goInt]
      simp only [R] at hx;split at hx
      ·rename_i hcap
       obtain ⟨hn0,_,hv⟩:=hx;exact nothing aj 0 (by rw [hv,hn0]) A0
      ·rename_i c hcap
       obtain ⟨hoc,ad,hvx,had⟩:=hx
       by_cases hq0:M q=0
       ·exact nothing _ _ hvx hq0
       ·have hlive:live β k ⟨c0,bt,.vec ty l,X⟩:=by unfold live;rw [hcap];simp
        simp only [BX,hcap] at hblk;obtain ⟨cur,g1,g2,g3,g4⟩:=hblk
        have hm:=N2 ty.n (show M q<=c by omega)
        have hst:=xH P (β k).b (β k).o bt news 0 cur w g1 (by rw [hnl];omega) hs.one
        simp only [Za] at hst;generalize hnew:(cur.toList.take (β k).o++news++cur.toList.drop ((β k).o+M news)).toArray=new at hst
        have hnget:∀p,new[p]? =if p<(β k).o then cur[p]? else if p<(β k).o+M news then news[p-(β k).o]? else cur[p]? :=λp=>by
         rw [<-hnew]
         have hsz':(β k).o<=cur.size:=A0
         by_cases q1:p<(β k).o
         ·exact aMG
         ·rw [AE q1]
          simp only [ZC]
          by_cases q2:p<(β k).o+M news
          ·exact aLJ
          ·rw [AE q2,GC D2,Ew]
           have:(β k).o+M news+(p-M (cur.toList.take (β k).o++news))=p:=by
            simp
            omega
           rw [this]
           simp
        have hnsz:new.size=cur.size:=by
         rw [<-hnew]
         simp
         omega
        have hne:∀q,q≠(β k).b->(w.setRow (β k).b new).heap[q]? =w.heap[q]? :=λq hq=>aBl w _ _ _ hq
        have hZw:∀b',Z b'->(w.setRow (β k).b new).heap[b']? =w.heap[b']? :=λb' hz=>hne b' λe=>hW.Ci k _ hb hlive rfl<|e▸hz
        have hb2:=setRow_heap w (β k).b cur new bt _ g1
        have had:=had A0
        rw [kW,Za] at had;refine ⟨w.setRow (β k).b new,Y J (M q:Int),?_,?_,JJ,ak,AJ,hZw,⟨rfl,rfl,rfl,VA,λq _ hq=>hne q λe=>hq<|e▸TG hb hlive rfl⟩⟩
        ·rw [hvx,had]
         simp [Builtin.copy_,CY hu,hlen,sizeOf,typeInfo,hi,him,Nat.min_eq_left hql,hcells,hst,goInt]
        ·refine hW.set hb hlive rfl rfl ⟨hbo.1,ak⟩ VA ⟨rfl,rfl,rfl⟩ hne ?_
         simp only [BX,hcap];refine ⟨new,hb2,A0,by simp only [BC,BD,Eu];omega,λi' d' hd'=>?_⟩
         unfold BC at hd'
         by_cases hii:i'<M q
         ·rw [HL hii] at hd'
          refine nb Z (w.setRow (β k).b new) (β k).b (β k).o (λ_ h=>h) hZw (λp hp=>?_) i' d' hd'
          rw [cell_of_block hb2,hnget,AE A0,AD A0,wg]
         ·rw [GC A0,Ew,Nat.add_sub_cancel' A0] at hd'
          refine RD.move (λ_ h=>h) hZw ty d' _ _ _ _ (λp hp=>?_)<|g4 i' d' hd'
          have:=N2 ty.n (show M q<=i' by omega)
          rw [cell_of_block hb2,cell_of_block g1,hnget,AE A0,AE A0]
     ·cases h
    ·cases h
   ·cases h
  ·cases h
 ·cases h
end Go.Sx
namespace Go.Sx
open Go.Proofs.YtpfblnbippcdjaaGreatDoor
open Go Go.RowKit
variable {P : Program} {G : Az} {Γ : Specs} {β : Nat -> Loc} {Z : Nat -> Prop} {Z0 : Gz} {w w0 : World} {F : List LV} {H : List AB} {a : Act}
def aBr {n m:Nat}{g:LV->LV}{l:List LV}(h:AS n l) (hg:∀x,okV n x->okV m (g x)):AS m (l.map g):=by
 refine AS.CS λi x hx=>?_
 cases hl:l[i]? with
 |none=>simp [hl] at hx
 |some q=>simp [hl] at hx;subst hx;exact hg q<|AS.get _ _ h hl
theorem aCX {k:Nat}{x:LV}:∀ {l:List LV}{i:Nat},l[i]? =ah x->k∈owns x->k∈ownsL l
 | [],i,h,_=>A8
 |y::ys,0,h,hk=>by simp at h;subst h;simp only [ownsL,By];exact .inl hk
 |y::ys,i+1,h,hk=>by simp at h;simp only [ownsL,By];exact .inr<|aCX (l:=ys) h hk
def T7 {S:Nat->Prop}{Z':Nat->Prop}{g:LV->LV}{n:Nat}{l:List LV}{ys:List Value}(h:RL β Z w l ys) (hk:AS n l) (hS:∀k,k∈ownsL l->S k) (hg:∀x y,x∈l->(∀k,k∈owns x->S k)->okV n x->R β Z w x y->R β Z' w (g x) y):RL β Z' w (l.map g) ys:=by
 refine RL.CS (by simp [RL.length h]) λi x hx=>?_
 cases hl:l[i]? with
 |none=>simp [hl] at hx
 |some q=>
  simp [hl] at hx;subst hx
  obtain ⟨y,h1,h2⟩:=RL.get _ _ h hl;exact ⟨y,h1,hg q y (OK hl) (λk hkk=>hS k<|aCX hl hkk) (AS.get _ _ hk hl) h2⟩
def GX (H:List AB) (d:Nat) (x:LV):Prop:=(EB H d x).all λ_=>True
def Od {α:Type}{g:α->T Unit}:∀ {l:List α},(Fy g l).all (λ_=>True)->∀x,x∈l->(g x).all (λ_=>True)
 | [],_,x,hx=>by cases hx
 | y::ys,h,x,hx=>by
  simp only [Fy] at h;rw [T.all_bind] at h;rcases B8.1 hx with rfl|hx
  ·exact T.BW (λ_ _=>trivial) h
  ·obtain ⟨_,h1,_⟩:=T.pick h
   exact Od h1 x hx
def aoB (e:Ty) (d:e.D) (j:Nat):okV 0 ((Bq e d).getD j .junk):=dO (NK 0 e d) j
def QA (H:List AB) (hH:∀(k:Nat) (b:AB),H[k]? =ah b->okB (M H) b):∀(d:Nat) (x:LV),okV (M H) x->okV 0 (C2 H d x)
 |0,x,_=>by cases x<;>trivial
 | d+1,.own k off,_=>by
  simp only [C2];split
  ·rename_i b hb
   split
   ·simp only [okV]
    exact λj=>QA H hH d _<|dO (hH k b hb).1 _
   ·trivial
  ·trivial
 | d+1,.os k es off n,_=>by
  simp only [C2];split
  ·split
   ·trivial
   ·trivial
  ·trivial
 | d+1,.op k es i j,_=>by
  simp only [C2];split
  ·split
   ·simp only [okV];exact λq=>aoB _ _ _
   ·trivial
  ·trivial
 | d+1,.om k,_=>by
  simp only [C2];split
  ·rename_i hb
   exact aBr (hH k _ hb).2 λx hx=>QA H hH d x hx
  ·trivial
 |d+1,.v x,_=>trivial
 |d+1,.bl x,_=>trivial
 |d+1,.ki _ _,_=>trivial
 |d+1,.agg l,h=>Zr
 |d+1,.AM l,h=>Zr
 |d+1,.fn f l,h=>Zr
 |d+1,.fb f l,h=>Zr
 |d+1,.xq n f,h=>by simpa only [C2,okV] using h
 |d+1,.xl e l,h=>trivial
 |d+1,.mp kd ks vs,h=>Zr
 |d+1,.oc ..,_=>trivial
 |d+1,.CO k,_=>trivial
 |d+1,.junk,_=>trivial
def ZP (Z:Nat->Prop) (β:Nat->Loc) (H:List AB) (S:Nat->Prop):Nat->Prop:=λb=>Z b\/∃k bk,S k/\H[k]? =ah bk/\live β k bk/\b=(β k).b
def pM (hW:RW G w0 Z0 Z β H w) {k:Nat}{b:AB}(hb:H[k]? =ah b) (hc:b.Dk=U):live β k b/\(∃cs,w.heap[(β k).b]? =ah (.cells cs b.t (0,0))/\RL β Z w b.c cs.toList)/\AS (M H) b.c:=by
 obtain ⟨h1,h2⟩:=hW.blk k b hb;unfold BX at h1;unfold AB.Dk at hc;split at hc
 ·rename_i hk'
  simp only [hk'] at h1;exact ⟨by unfold live;rw [hk'];trivial,h1,h2.1⟩
 ·cases hc
theorem MT {S:Nat->Prop}(hW:RW G w0 Z0 Z β H w) (clo:∀k b,S k->H[k]? =ah b->∀j,j∈b.owns->S j):∀(d:Nat) (x:LV) (y:Value),GX H d x->(∀k,k∈owns x->S k)->okV (M H) x->R β Z w x y->R β (ZP Z β H S) w (C2 H d x) y
 |0,x,_,_,_,_,_=>by cases x<;>simp only [C2,R]
 | d+1,.own k off,y,hG,hS,hk,h=>by
  simp only [C2];split
  ·rename_i b hb
   split
   ·rename_i hcl
    obtain ⟨hl,⟨cs,hc,hrl⟩,hok⟩:=pM hW hb hcl
    have hSk:S k:=hS k IU
    simp only [R,okV] at*;refine ⟨(β k).b,off,h,.inr ⟨k,b,hSk,hb,hl,rfl⟩,λj hj=>?_⟩
    have hl':off+j<M b.c:=A0
    have hq:=getD_lt hl'
    obtain ⟨z,h1,h2⟩:=RL.get _ _ hrl hq;refine ⟨z,aN2,?_⟩
    have hG':(Fy (EB H d) b.c).all (λ_=>True):=aNj
    exact MT hW clo d _ z (Od hG' _<|OK hq) (λj hj=>clo k b hSk hb j (by unfold AB.owns;exact By.2<|.inl<|aCX hq hj)) (dO hok _) h2
   ·exact Dh
  ·exact Dh
 | d +1,.os k es off n,y,hG,hS,hk,h=>by
  simp only [C2];split
  ·rename_i c0 bt e l pp hb
   split
   ·rename_i hes
    have hle:off+n<=M l:=by
     exact aMT
    have hSk:S k:=hS k IU
    have hlen:M ((l.drop off).take n)=n:=D2
    simp only [R] at h|-;rw [hlen];split at h
    ·obtain ⟨rfl,_,hy⟩:=h
     exact ⟨aj,0,hy,A0,λh=>absurd h A0⟩
    ·rename_i c hc
     obtain ⟨h1,a,h2,h3⟩:=h;refine ⟨ah a,c-off,h2,A0,λhn=>?_⟩
     have h4:=(hW.blk k _ hb).1
     simp only [BX,hc] at h4;obtain ⟨cs,g1,g2,g3,g4⟩:=h4;refine ⟨_,_,by rw [h3 A0],.inr ⟨k,_,hSk,hb,by simp [live,hc],rfl⟩,λi d hd=>?_⟩
     rw [L1] at hd;split at hd
     ·rw [Ew] at hd
      have:=g4 (off+i) d hd
      rw [<-hes];rw [Fu,<-HO] at this;exact RD.keep (λ_ h=> .inl h) (λ_ _=>rfl) e d _ _ rfl this
     ·cases hd
   ·exact Dh
  ·exact Dh
 | d +1,.op k es i j,y,hG,hS,hk,h=>by
  simp only [C2];split
  ·rename_i c0 bt e l pp hb
   split
   ·rename_i hes
    have hle:i<M l:=by
     exact aMT
    have hSk:S k:=hS k IU
    simp only [R] at h|-;obtain ⟨hcap,hy⟩:=h
    have h4:=(hW.blk k _ hb).1
    simp only [BX] at h4;split at h4
    ·exact xu
    ·rename_i c hc
     obtain ⟨cs,g1,g2,g3,g4⟩:=h4;refine ⟨_,_,hy,.inr ⟨k,_,hSk,hb,by simp [live,hc],rfl⟩,λq hq=>?_⟩
     have hjq:j+q<M (Bq e<|l.getD i e.dflt):=yW
     have hrd:=RD.keep (Z':=ZP Z β H S) (λ_ h=> .inl h) (λ_ _=>rfl) e _ _ _ rfl<|g4 i _<|getD_at hle
     obtain ⟨z,z1,z2⟩:=Wk (β:=β) e _ _ _ hrd (j+q) _<|getD_lt hjq
     grind
   ·exact Dh
  ·exact Dh
 | d+1,.om k,y,hG,hS,hk,h=>by
  simp only [C2];split
  ·rename_i c0 bt kd ks vs pp hb
   have hSk:S k:=hS k IU
   obtain ⟨h4,h5⟩:=hW.blk k _ hb;simp only [BX] at h4;obtain ⟨es,clock,g1,g2,g3⟩:=h4;simp only [R] at h|-;refine ⟨_,es,clock,h,.inr ⟨k,_,hSk,hb,ak,rfl⟩,g1,g2,?_⟩
   have hG':(Fy (EB H d) vs).all (λ_=>True):=aNj
   exact T7 (S:=S) g3 h5.2 (λj hj=>clo k _ hSk hb j (by unfold AB.owns;exact By.2<|.inr hj)) λx y hm hx hk' hr=>MT hW clo d x y (Od hG' _ hm) hx hk' hr
  ·exact Dh
 |d+1,.v x,_,_,_,_,h=>h
 |d+1,.bl x,_,_,_,_,h=>h
 |d+1,.ki _ _,_,_,_,_,h=>h
 |d+1,.agg l,y,hG,hS,hk,h=>by
  exact kO
 |d+1,.AM l,y,hG,hS,hk,h=>by
  exact kO
 |d+1,.fn f l,y,hG,hS,hk,h=>by
  exact kO
 |d+1,.fb f l,y,hG,hS,hk,h=>by
  exact kO
 |d+1,.mp kd ks vs,y,hG,hS,hk,h=>by
  have hG':(Fy (EB H d) vs).all (λ_=>True):=aNm
  clear hG
  simp only [C2,R,okV,owns] at*;obtain ⟨r,es,clock,h1,h2,h3,h4,h5⟩:=h;exact ⟨r,es,clock,h1,.inl h2,h3,h4,T7 h5 hk hS λx y hm hx hk' hr=>MT hW clo d x y (Od hG' _ hm) hx hk' hr⟩
 |d+1,.xq n f,y,_,_,hk,h=>by
  exact aLQ
 |d+1,.xl e l,y,_,_,hk,h=>by
  exact aLQ
 |d+1,.oc ..,_,_,_,_,_=>yL
 |d+1,.CO k,_,_,_,_,_=>yL
 |d+1,.junk,_,_,_,_,_=>yL
def bz (ks:List Nat):∀(H:List AB) (s k:Nat),(FR ks s H)[k]? =(H[k]?).map λb=>if ks.contains (s+k) then ⟨b.c,b.t,b.k,U⟩ else b
 | [],_,_=>by simp [FR]
 |b::bs,s,0=>by simp [FR]
 |b::bs,s,k+1=>by
  simp only [FR,kJ];rw [bz ks bs (s+1) k,show s+1+k=s+(k+1) by omega]
def Jy (ks:List Nat):∀(H:List AB) (s:Nat),M (FR ks s H)=M H
 | [],_=>rfl
 |b::bs,s=>by simp [FR,Jy ks bs]
theorem RW.pub (hW:RW G w0 Z0 Z β H w) (ks:List Nat):RW G w0 Z0 (ZP Z β H λk=>k∈ks) β (FR ks 0 H) w:=by
 have old:∀k b,(FR ks 0 H)[k]? =ah b->∃b0,H[k]? =ah b0/\live β k b=live β k b0/\b.k=b0.k/\b.t=b0.t/\b.c=b0.c/\((k∈ks/\b.p=U)\/(k∉ks/\b.p=b0.p)):=λk b h=>by
  rw [bz] at h;cases hb:H[k]? with
  |none=>simp [hb] at h
  | some b0=>
   simp only [hb,JG,Af,EK] at h;refine ⟨b0,rfl,?_⟩;split at h
   ·rename_i hc
    subst h;exact ⟨rfl,rfl,rfl,rfl,.inl ⟨A8,rfl⟩⟩
   ·rename_i hc
    subst h
    grind
 have hZ:∀b,Z b->ZP Z β H (λk=>k∈ks) b:=λ_ h=> .inl h
 refine ⟨hW.below,λb hz=>?_,λb hz=>?_,λk b hk hl hp hz=>?_,λk b hk hl hp=>?_,λk b hk hl=>?_,λi j bi bj hi hj li lj pi e=>?_,λk b hk=>?_,hW.CZ.mono hZ λ_ _=>rfl,λp hp=>⟨R.mono (n:=M H) (λ_ _=>rfl) hZ (λ_ _=>rfl) _ _ (hW.gh p hp).2 (hW.gh p hp).1,by rw [Jy];exact (hW.gh p hp).2⟩,λD hD=>⟨.inl (hW.Ck D hD).1,(hW.Ck D hD).2⟩⟩
 ·exact aLZ
 ·rcases hz with hz|⟨k,bk,_,h2,h3,rfl⟩
  ·exact hW.ET b hz
  ·exact .inr<|hW.low k bk h2 h3
 ·obtain ⟨b0,h1,h2,h3,h4,h5,h6⟩:=old k b hk
  rcases h6 with ⟨_,h6⟩ |⟨h6,h7⟩
  ·grind
  ·rcases hz with hz|⟨j,bj,g1,g2,g3,g4⟩
   ·exact hW.Ci k b0 h1 (h2▸hl) (h7▸hp) hz
   ·exact h6<|(hW.inj k j b0 bj h1 g2 (h2▸hl) g3 (h7▸hp) g4)▸g1
 ·obtain ⟨b0,h1,h2,h3,h4,h5,h6⟩:=old k b hk
  rcases h6 with ⟨h6,_⟩ |⟨h6,h7⟩
  ·exact .inr ⟨k,b0,h6,h1,h2▸hl,rfl⟩
  ·exact .inl<|hW.Fz k b0 h1 (h2▸hl)<|h7▸hp
 ·obtain ⟨b0,h1,h2,_⟩:=old k b hk
  exact hW.low k b0 h1<|h2▸hl
 ·obtain ⟨b0,h1,h2,h3,h4,h5,h6⟩:=old i bi hi
  obtain ⟨c0,g1,g2,_⟩:=old j bj hj;rcases h6 with ⟨_,h6⟩ |⟨h6,h7⟩
  ·grind
  ·exact hW.inj i j b0 c0 h1 g1 (h2▸li) (g2▸lj) (h7▸pi) e
 ·obtain ⟨b0,h1,h2,h3,h4,h5,h6⟩:=old k b hk
  obtain ⟨q1,q2⟩:=hW.blk k b0 h1
  have q3:=q1.keep (β':=β) (Z':=ZP Z β H λk=>k∈ks) (w':=w) (n:=M H) (λ_ _=>rfl) hZ (λ_ _=>rfl) rfl (λ_=>rfl) q2
  rw [Jy];refine ⟨?_,?_⟩
  ·unfold BX at q3|-
   rwa [h3,h4,h5]
  ·unfold okB at q2|-
   rwa [h3,h5]
theorem Sm {ks:List Nat}{l:List LV}(h:KC H ks l=U):(∀k,k∈ownsL l->k∈ks)/\(∀k b,k∈ks->H[k]? =ah b->∀j,j∈b.owns->j∈ks):=by
 unfold KC at h;refine ⟨λk hk=>A8,λk b hk hb j hj=>?_⟩
 grind
end Go.Sx
namespace Go.Sx
open Go.Proofs.YtpfblnbippcdjaaGreatDoor
open Go Go.RowKit
variable {P : Program} {G : Az} {Γ : Specs} {β : Nat -> Loc} {Z : Nat -> Prop} {Z0 : Gz} {w w0 : World} {F : List LV} {H : List AB} {a : Act}
def RO (β:Nat->Loc) (Z:Nat->Prop) (w:World):Option LV->Option Value->Prop
 |none,aj=>True
 |some x,ah y=>R β Z w x y
 |_,_=>False
def aCR {lo hi:Option Value}{len cap i j:Nat}(hij:i<=j) (hlc:j<=cap) (hlo:match lo with|none=>i=0|some v=>∃k,v=Y k i) (hhi:match hi with|none=>j=len|some v=>∃k,v=Y k j) (w':World):
  (Instr.sliceBounds U len cap lo hi aj).run P w'=.ok (i,j,cap) w':=by
 have bd:∀(k:IntKind) (x y:Nat) (c:BoundsCode),x<=y->(Instr.sliceBound (Y k x) y c).run P w'=.ok x w':=λk x y c hxy=>by
  exact aLU
 cases lo with
 |none=>
  subst hlo;cases hi with
  |none=>simp only at hhi;subst hhi;simp [Instr.sliceBounds]
  |some v=>simp only at hhi;obtain ⟨k,rfl⟩:=hhi;simp [Instr.sliceBounds,bd k j cap _ hlc]
 |some u=>
  obtain ⟨k',rfl⟩:=hlo;cases hi with
  |none=>simp only at hhi;subst hhi;simp [Instr.sliceBounds,bd k' i j _ hij]
  |some v=>simp only at hhi;obtain ⟨k,rfl⟩:=hhi;simp [Instr.sliceBounds,bd k j cap _ hlc,bd k' i j _ hij]
def adH {t:TypeId} {x lv:LV} {y:Value} {lo hi:Option LV} {vlo vhi:Option Value} {N:Nat} (h:(qm P t x lo hi).all λz=>z=lv) (hr:R β Z w x y) (hlo:RO β Z w lo vlo) (hhi:RO β Z w hi vhi) (hk:okV N x):
  ∃v,(∀w',(Instr.sliceAt t y vlo vhi aj).run P w'=.ok v w')/\R β Z w lv v/\okV N lv:=by
 unfold qm at h;split at h
 ·rename_i e hu
  split at h
  ·rename_i m hsz
   have e2:=λw=>run_sizeOf hsz w
   have bnd:∀(o:Option LV) (v:Option Value) (d n:Int),RO β Z w o v->(match o with|none=>ah d|some y=>match pl y with|some (.int _ n)=>ah n|_=>aj)=ah n->(match v with|none=>n=d|some v=>∃k,v=Y k n):=λo v d n ho hn=>by
    cases o with
    |none=>
     cases v with
     |none=>simp only at hn|-;exact (Dt hn).symm
     |some v=>cases ho
    | some x=>
     cases v with
     |none=>cases ho
     | some v=>
      simp only [RO] at ho;simp only at hn|-;split at hn
      ·rename_i k n' hp
       simp only [Af] at hn;subst hn;exact ⟨k,Cf hp ho⟩
      ·cases hn
   have nn:∀(v:Option Value) (d n:Int),0<=n->0<=d->(match v with|none=>n=d|some v=>∃k,v=Y k n)->(match v with|none=>n.toNat=d.toNat|some v=>∃k,v=Y k (n.toNat:Int)):=λv d n hn hd hv=>by
    cases v with
    |none=>simp only at hv|-;rw [hv]
    |some v=>simp only at hv|-;rw [CR hn];exact hv
   simp only at h;split at h
   ·rename_i ty l
    split at h
    ·rename_i i j hi1 hi2
     split at h
     ·rename_i htn
      simp only [T.all] at h;obtain ⟨⟨h0,h1,h2⟩,h3⟩:=h;subst h3;simp only [R] at hr;obtain ⟨ad,cap,g1,g2,g3⟩:=hr
      have b1:=nn vlo 0 i h0 A0<|bnd lo vlo 0 i hlo hi1
      have b2:=nn vhi _ j A0 A0<|bnd hi vhi _ j hhi hi2
      simp only [C3,Int.toNat_zero] at b1 b2;refine ⟨_,λw'=>by simp [Instr.sliceAt,Instr.slice,CY hu,g1,aCR (P:=P) (len:=M l) (cap:=cap) (i:=i.toNat) (j:=j.toNat) A0 A0 b1 b2 w',e2];rfl,?_,ak⟩
      have hlen:M ((l.drop i.toNat).take<|j.toNat-i.toNat)=j.toNat-i.toNat:=D2
      simp only [R];rw [hlen];refine ⟨_,_,rfl,A0,λhn=>?_⟩
      obtain ⟨b,off,g4,g5,g6⟩:=g3 A0;rw [AE A0,g4];simp only [JG,addr_add];refine ⟨b,_,rfl,g5,λp d hd=>?_⟩
      rw [L1] at hd;split at hd
      ·rw [Ew] at hd
       have:=g6 (i.toNat+p) d hd
       rw [Fu,<-HO,htn] at this;rw [htn];exact this
      ·cases hd
     ·cases h
    ·cases h
   ·rename_i k es off n
    split at h
    ·rename_i i j hi1 hi2
     split at h
     ·rename_i hes
      simp only [T.all] at h;obtain ⟨⟨h0,h1,h2⟩,h3⟩:=h;subst h3
      have b1:=nn vlo 0 i h0 A0<|bnd lo vlo 0 i hlo hi1
      have b2:=nn vhi _ j A0 A0<|bnd hi vhi _ j hhi hi2
      simp only [R] at hr;split at hr
      ·rename_i hcap
       obtain ⟨rfl,rfl,rfl⟩:=hr
       have hi0:i.toNat=0:=A0
       have hj0:j.toNat=0:=A0
       refine ⟨.slice aj 0 0,λw'=>by simp [Instr.sliceAt,Instr.slice,CY hu,aCR (P:=P) (len:=0) (cap:=0) (i:=i.toNat) (j:=j.toNat) A0 A0 b1 b2 w',e2,hi0,hj0],by simp [R,hcap,hi0,hj0],hk⟩
      ·rename_i c hcap
       obtain ⟨g1,ad,g2,g3⟩:=hr;subst g2;refine ⟨_,λw'=>by simp [Instr.sliceAt,Instr.slice,CY hu,aCR (P:=P) (len:=n) (cap:=c-off) (i:=i.toNat) (j:=j.toNat) A0 A0 b1 b2 w',e2];rfl,?_,hk⟩
       simp only [R,hcap];refine ⟨A0,if c-off=i.toNat then ad else ad.add (i.toNat*(m+1)),?_,λhn=>?_⟩
       ·rw [show c-(off+i.toNat)=c-off-i.toNat by omega]
        split<;>rfl
       ·rw [AE A0,g3 A0,addr_add,hes,Fu,HO]
     ·cases h
    ·cases h
   ·cases h
  ·cases h
 ·cases h
def aeR {lo:Option Value}{kh km:IntKind}{len cap i j:Nat}(hij:i<=j) (hlc:j<=cap) (hlo:match lo with|none=>i=0|some v=>∃k,v=Y k i) (w':World):
  (Instr.sliceBounds U len cap lo (ah<|Y kh j)<|ah<|Y km j).run P w'=.ok (i,j,j) w':=by
 have bd:∀(k:IntKind) (x y:Nat) (c:BoundsCode),x<=y->(Instr.sliceBound (Y k x) y c).run P w'=.ok x w':=λk x y c hxy=>by
  exact aLU
 cases lo with
 |none=>simp only at hlo;subst hlo;simp [Instr.sliceBounds,bd km j cap _ hlc,bd kh j j _<|Av j]
 |some u=>
  obtain ⟨k',rfl⟩:=hlo
  simp [Instr.sliceBounds,bd km j cap _ hlc,bd kh j j _<|Av j,bd k' i j _ hij]
theorem ad8 {t:TypeId} {x lv hi mx:LV} {y vhi vmx:Value} {lo:Option LV} {vlo:Option Value} {N:Nat} (h:(pt P t x lo hi mx).all λz=>z=lv) (hr:R β Z w x y) (hlo:RO β Z w lo vlo) (hhi:R β Z w hi vhi) (hmx:R β Z w mx vmx):
  ∃v,(∀w',(Instr.sliceAt t y vlo (ah vhi)<|ah vmx).run P w'=.ok v w')/\R β Z w lv v/\okV N lv:=by
 unfold pt at h;split at h
 ·rename_i e hu
  split at h
  ·rename_i m hsz
   have e2:=λw=>run_sizeOf hsz w
   split at h
   ·rename_i ty l
    split at h
    ·rename_i i kj j kq q hi1 hi2 hi3
     have v2:=Cf hi2 hhi
     have v3:=Cf hi3 hmx
     subst v2;subst v3;split at h
     ·rename_i htn
      obtain ⟨⟨h0,h1,h2,rfl⟩,h3⟩:=h;subst h3;obtain ⟨ad,cap,g1,g2,g3⟩:=hr
      have b1:(match (generalizing:=false) vlo with|none=>i.toNat=0|some v=>∃k,v=Y k (i.toNat:Int)):=by
       cases lo with
       |none=>
        cases vlo with
        |none=>simp only [Af] at hi1;subst hi1;rfl
        |some v=>cases hlo
       | some u=>
        cases vlo with
        |none=>cases hlo
        | some v=>
         simp only at hi1|-;split at hi1
         ·rename_i k n' hp
          simp only [Af] at hi1;subst hi1;exact ⟨k,by rw [CR h0];exact Cf hp hlo⟩
         ·cases hi1
      have hj:q=((q.toNat:Nat):Int):=(CR A0).symm
      have hb:=λw'=>aeR (P:=P) (lo:=vlo) (kh:=kj) (km:=kq) (len:=M l) (cap:=cap) (i:=i.toNat) (j:=q.toNat) A0 A0 b1 w'
      rw [<-hj] at hb;refine ⟨_,λw'=>by simp [Instr.sliceAt,Instr.slice,CY hu,g1,hb w',e2];rfl,?_,ak⟩
      have hlen:M ((l.drop i.toNat).take<|q.toNat-i.toNat)=q.toNat-i.toNat:=D2
      simp only [R];rw [hlen];refine ⟨_,_,rfl,A0,λhn=>?_⟩
      obtain ⟨b,off,g4,g5,g6⟩:=g3 A0;rw [AE A0,g4];simp only [JG,addr_add];refine ⟨b,_,rfl,g5,λp d hd=>?_⟩
      rw [L1] at hd;split at hd
      ·rw [Ew] at hd
       have:=g6 (i.toNat+p) d hd
       grind
      ·cases hd
     ·cases h
    ·cases h
   ·cases h
  ·cases h
 ·cases h
theorem aDL {kd:IntKind}{n:Int}{z:Value}{lv:LV}:∀(ks:List Int) (vs:List LV) (es:List MapEntry) (s:Nat),(cB kd n z ks vs).all (λr=>r=lv)->M ks=M vs->es.map (·.key)=ks.map (.int kd)->RL β Z w vs (es.map (·.val))->
  (∃s' v,aA (.int kd) (Y kd n) es s=ah (ah (s',v))/\R β Z w lv v/\∃i:Nat,vs[i]? =ah lv)\/(aA (.int kd) (Y kd n) es s=ah aj/\lv=.v z)
 | [],[],es,s,h,_,hk,hr=>by
  exact aMM
 | [],_::_,_,_,_,hl,_,_=>A8
 |_::_,[],_,_,_,hl,_,_=>A8
 | k::ks,v::vs,es,s,h,hl,hk,hr=>by
  cases es with
  |nil=>simp at hk
  | cons e es=>
   simp only [E8,HN] at hk;obtain ⟨y,zs,h1,h2,h3⟩:=hr;obtain ⟨rfl,rfl⟩:=h1;cases hb:(n==k) with
   |true=>
    have:=h.1 hb
    subst this;exact .inl ⟨s,e.val,VG,h2,0,rfl⟩
   |false=>
    have hf:aA (.int kd) (Y kd n) (e::es) s=aA (.int kd) (Y kd n) es (s+1):=VG
    rw [hf];rcases aDL ks vs es (s+1) (h.2 hb) A8 hk.2 h3 with ⟨s',v',q1,q2,i,q3⟩ |q
    ·exact .inl ⟨s',v',q1,q2,i+1,A8⟩
    ·exact .inr q
def ml {kt:TypeId}{kd:IntKind}(hu:P.underlying kt=ah (.int kd)) (e:Bool) (v:Value) (w':World):(Instr.checkKey e 10000 kt v).run P w'=.ok () w':=by
 unfold Instr.checkKey
 simp [CY hu]
theorem adZ {t:TypeId}{x q lv:LV}{y z:Value}(hW:RW G w0 Z0 Z β H w) (h:(U4 P H t x q).all λr=>r=lv) (hr:R β Z w x y) (hq:R β Z w q z) (hk:okV (M H) x):
  ∃v,(∀w',(∀b,(Z b\/∃k,x=.om k/\b=(β k).b)->w'.heap[b]? =w.heap[b]?)->(Instr.lookup t y z X).run P w'=.ok v w')/\R β Z w lv v/\okV (M H) lv:=by
 unfold U4 at h;split at h
 ·rename_i kt et hu
  split at h
  ·rename_i kd z0 kd' n hku hz hp
   split at h
   ·rename_i hkd
    obtain ⟨rfl,hz1⟩:=hkd
    have hzq:=Cf hp hq
    have main:∀(r:Nat) (es:Array MapEntry) (clock:Nat) (ks:List Int) (vs:List LV),y=.map (ah r)->w.heap[r]? =ah (.map es clock)->es.toList.map (·.key)=ks.map (.int kd')->RL β Z w vs (es.toList.map (·.val))->M ks=M vs->AS (M H) vs->(cB kd' n z0 ks vs).all (λr=>r=lv)->(Z r\/∃k,x=.om k/\r=(β k).b)->
      ∃v,(∀w',(∀b,(Z b\/∃k,x=.om k/\b=(β k).b)->w'.heap[b]? =w.heap[b]?)->(Instr.lookup t y z X).run P w'=.ok v w')/\R β Z w lv v/\okV (M H) lv:=λr es clock ks vs hy hh hkk hvv hl hok hch hzr=>by
     rcases aDL ks vs es.toList 0 hch hl hkk hvv with ⟨s',v',q1,q2,i,q3⟩ |⟨q1,q2⟩
     ·refine ⟨v',λw' hw'=>?_,q2,AS.get i _ hok q3⟩
      exact aL8
     ·refine ⟨z0,λw' hw'=>?_,by rw [q2];simp [R],by rw [q2];trivial⟩
      exact aL2
    split at h
    ·exact aMF
    ·rename_i k
     split at h
     ·rename_i hb
      split at h
      ·rename_i hkk
       obtain ⟨rfl,hl⟩:=hkk;obtain ⟨b1,b2⟩:=hW.blk k _ hb;obtain ⟨es,clock,g1,g2,g3⟩:=b1;exact aLd
      ·cases h
     ·cases h
    ·cases h
   ·cases h
  ·cases h
 ·cases h
theorem ade {kd:IntKind}{n:Int}{z:Value}{lv:LV}:∀(ks:List Int) (vs:List LV) (es:List MapEntry) (s:Nat),(bh kd n z ks vs).all (λr=>r=lv)->M ks=M vs->es.map (·.key)=ks.map (.int kd)->RL β Z w vs (es.map (·.val))->
  (∃s' v u,aA (.int kd) (Y kd n) es s=ah (ah (s',v))/\R β Z w u v/\lv=.AM [norm u,.bl U]/\∃i:Nat,vs[i]? =ah u)\/(aA (.int kd) (Y kd n) es s=ah aj/\lv=.AM [.v z,.bl X])
 | [],[],es,s,h,_,hk,hr=>by
  exact aMM
 | [],_::_,_,_,_,hl,_,_=>A8
 |_::_,[],_,_,_,hl,_,_=>A8
 | k::ks,v::vs,es,s,h,hl,hk,hr=>by
  cases es with
  |nil=>simp at hk
  | cons e es=>
   simp only [E8,HN] at hk;obtain ⟨y,zs,h1,h2,h3⟩:=hr;obtain ⟨rfl,rfl⟩:=h1;cases hb:(n==k) with
   |true=>
    have:=h.1 hb
    subst this;exact .inl ⟨s,e.val,v,VG,h2,rfl,0,rfl⟩
   |false=>
    have hf:aA (.int kd) (Y kd n) (e::es) s=aA (.int kd) (Y kd n) es (s+1):=VG
    rw [hf];rcases ade ks vs es (s+1) (h.2 hb) A8 hk.2 h3 with ⟨s',v',u',q1,q2,q4,i,q3⟩ |q
    ·exact .inl ⟨s',v',u',q1,q2,q4,i+1,A8⟩
    ·exact .inr q
theorem adL {t:TypeId}{x q lv:LV}{y z:Value}(hW:RW G w0 Z0 Z β H w) (h:(Wv P H t x q).all λr=>r=lv) (hr:R β Z w x y) (hq:R β Z w q z) (hk:okV (M H) x):
  ∃v,(∀w',(∀b,(Z b\/∃k,x=.om k/\b=(β k).b)->w'.heap[b]? =w.heap[b]?)->(Instr.lookup t y z U).run P w'=.ok v w')/\R β Z w lv v/\okV (M H) lv:=by
 unfold Wv at h;split at h
 ·rename_i kt et hu
  split at h
  ·rename_i kd z0 kd' n hku hz hp
   split at h
   ·rename_i hkd
    obtain ⟨rfl,hz1⟩:=hkd
    have hzq:=Cf hp hq
    have main:∀(r:Nat) (es:Array MapEntry) (clock:Nat) (ks:List Int) (vs:List LV),y=.map (ah r)->w.heap[r]? =ah (.map es clock)->es.toList.map (·.key)=ks.map (.int kd')->RL β Z w vs (es.toList.map (·.val))->M ks=M vs->AS (M H) vs->(bh kd' n z0 ks vs).all (λr=>r=lv)->(Z r\/∃k,x=.om k/\r=(β k).b)->
      ∃v,(∀w',(∀b,(Z b\/∃k,x=.om k/\b=(β k).b)->w'.heap[b]? =w.heap[b]?)->(Instr.lookup t y z U).run P w'=.ok v w')/\R β Z w lv v/\okV (M H) lv:=λr es clock ks vs hy hh hkk hvv hl hok hch hzr=>by
     rcases ade ks vs es.toList 0 hch hl hkk hvv with ⟨s',v',u,q1,q2,q4,i,q3⟩ |⟨q1,q2⟩
     ·refine ⟨.tuple #[v',.bool U],λw' hw'=>?_,by rw [q4];exact ⟨_,rfl,v',[.bool U],rfl,Ov q2,_,[],rfl,rfl,rfl⟩,by rw [q4];exact ⟨T6<|AS.get i _ hok q3,ak,ak⟩⟩
      exact aL8
     ·refine ⟨.tuple #[z0,.bool X],λw' hw'=>?_,by rw [q2];exact ⟨_,rfl,z0,[.bool X],rfl,rfl,_,[],rfl,rfl,rfl⟩,by rw [q2];exact ⟨ak,ak,ak⟩⟩
      exact aL2
    split at h
    ·exact aMF
    ·rename_i k
     split at h
     ·rename_i hb
      split at h
      ·rename_i hkk
       obtain ⟨rfl,hl⟩:=hkk;obtain ⟨b1,b2⟩:=hW.blk k _ hb;simp only [BX] at b1;obtain ⟨es,clock,g1,g2,g3⟩:=b1;simp only [R] at hr;exact aLd
      ·cases h
     ·cases h
    ·cases h
   ·cases h
  ·cases h
 ·cases h
def aE6 {kd:IntKind}{n:Int}:∀(ks:List Int) (es:List MapEntry) (s:Nat),ks.contains n=X->es.map (·.key)=ks.map (.int kd)->aA (.int kd) (Y kd n) es s=ah aj
 | [],es,s,_,hk=>by
  have:es=[]:=Fv
  subst this;rfl
 | k::ks,es,s,hc,hk=>by
  cases es with
  |nil=>simp at hk
  |cons e es=>
   simp only [E8,HN] at hk;simp only [List.contains_cons,GF] at hc
   have hf:aA (.int kd) (Y kd n) (e::es) s=aA (.int kd) (Y kd n) es (s+1):=by simp [aA,Instr.sameNow,hk.1,hc.1]
   rw [hf];exact aE6 ks es (s+1) hc.2 hk.2
theorem aCw {t:TypeId}{x q r:LV}{y z u:Value}{H':List AB}(hW:RW G w0 Z0 Z β H w) (h:(Ug P H t x q r).all λr=>r=H') (hr:R β Z w x y) (hq:R β Z w q z) (hu:R β Z w r u) (hrk:okV (M H) r):
  ∃w',(Instr.mapUpdate t y z u).run P w=.ok () w'/\RW G w0 Z0 Z β H' w'/\M H'=M H/\(∀b,Z b->w'.heap[b]? =w.heap[b]?)/\DL (DN β H<|owns x) w w':=by
 unfold Ug at h;split at h
 ·rename_i kt et hut
  split at h
  ·rename_i kd kd' n k hku hp
   split at h
   ·rename_i c0 bt kd2 ks vs hb
    split at h
    ·rename_i hle
     obtain ⟨rfl,rfl,hl,hnc⟩:=hle;subst h;obtain ⟨b1,b2⟩:=hW.blk k _ hb;obtain ⟨es,clock,g1,g2,g3⟩:=b1;simp only [R] at hr
     have hzq:=Cf hp hq
     have hlt:=(HM.1 g1).1
     have hget:(getObj (β k).b).run P w=.ok (.map es clock) w:=aNX
     let w':World:={w with heap:=w.heap.setIfInBounds (β k).b<|.map (es.push {key:=z,val:=u,born:=clock})<|clock+1}
     have hset:(setObj (β k).b<|.map (es.push {key:=z,val:=u,born:=clock})<|clock+1).run P w=.ok () w':=aNn
     have hfn:=aE6 ks es.toList 0 hnc g2
     have hlive:=trivial
     have hne:∀j,j≠(β k).b->w'.heap[j]? =w.heap[j]? :=λj hj=>A8
     have hZw:∀b',Z b'->w'.heap[b']? =w.heap[b']? :=λb' hz=>hne b' λe=>hW.Ci k _ hb hlive rfl<|e▸hz
     refine ⟨w',?_,?_,AJ,hZw,⟨rfl,rfl,rfl,lT,λj _ hj=>hne j λe=>hj<|e▸TG hb hlive rfl⟩⟩
     ·rw [hzq] at hset
      simp [Instr.mapUpdate,CY hut,hr,hget,ml hku,Instr.findKey,CY hku,hzq,hfn,hset]
     ·refine hW.set hb hlive rfl rfl ⟨ak,AS.append b2.2 ⟨hrk,ak⟩⟩ lT ⟨rfl,rfl,rfl⟩ hne ?_
      refine ⟨es.push {key:=z,val:=u,born:=clock},clock+1,by simp [w',hlt],by simp [g2,hzq],?_⟩
      have h1:RL β Z w (vs++[r]) (es.toList.map (·.val)++[u]):=g3.app (by simp only [RL];exact ⟨u,[],rfl,hu,rfl⟩)
      have hok1:AS (M H) [r]:=⟨hrk,ak⟩
      have h2:=RL.mono (n:=M H) (β':=β) (Z':=Z) (λ_ _=>rfl) (λ_ h=>h) hZw _ _ (AS.append b2.2 hok1) h1
      grind
    ·cases h
   ·cases h
  ·cases h
 ·cases h
def aQf:∀ {e:Ty}{v:Value}{d:e.D},O5 e v=ah d->v=aBU e d
 | .int k,v,d,h=>by
  simp only [O5] at h;split at h
  ·split at h
   ·rename_i hk;simp only [Af] at h;subst h hk;rfl
   ·cases h
  ·cases h
 | .str,v,d,h=>by
  simp only [O5] at h;split at h
  ·simp only [Af] at h;subst h;rfl
  ·cases h
 | .bool,_,_,h=>yg
 | .sl _,_,_,h=>yg
 | .pair _ _,_,_,h=>yg
def m9:Ty->TypeDesc
 | .int k=> .int k
 |_=> .string
theorem aFM {k:IntKind}{d:Int}:∀(l:List Int) (es:List MapEntry) (s:Nat),es.map (·.key)=l.map (.int k)->(∀x,x∈es->x.val=.bool U)->
  (l.contains d=U/\∃s',aA (.int k) (Y k d) es s=ah (ah (s',.bool U)))\/(l.contains d=X/\aA (.int k) (Y k d) es s=ah aj)
 | [],es,s,hk,_=>by
  exact aMS
 | x::l,es,s,hk,hv=>by
  cases es with
  |nil=>simp at hk
  | cons e es=>
   simp only [E8,HN] at hk;cases hb:(d==x) with
   |true=>
    refine .inl ⟨A8,s,?_⟩
    have hv1:=hv e AJ
    simp [aA,Instr.sameNow,hk.1,hb,hv1]
   |false=>
    have hf:aA (.int k) (Y k d) (e::es) s=aA (.int k) (Y k d) es (s+1):=VG
    rw [hf]
    have hc:(x::l).contains d=l.contains d:=A8
    rw [hc];exact aFM l es (s+1) hk.2 λy hy=>hv y A8
theorem aFL {d:ByteArray}:∀(l:List ByteArray) (es:List MapEntry) (s:Nat),es.map (·.key)=l.map .string->(∀x,x∈es->x.val=.bool U)->
  (l.contains d=U/\∃s',aA .string (.string d) es s=ah (ah (s',.bool U)))\/(l.contains d=X/\aA .string (.string d) es s=ah aj)
 | [],es,s,hk,_=>by
  exact aMS
 | x::l,es,s,hk,hv=>by
  cases es with
  |nil=>simp at hk
  | cons e es=>
   simp only [E8,HN] at hk;cases hb:(d==x) with
   |true=>
    refine .inl ⟨A8,s,?_⟩
    have hv1:=hv e AJ
    simp [aA,Instr.sameNow,hk.1,hb,hv1]
   |false=>
    have hf:aA .string (.string d) (e::es) s=aA .string (.string d) es (s+1):=VG
    rw [hf]
    have hc:(x::l).contains d=l.contains d:=A8
    rw [hc];exact aFL l es (s+1) hk.2 λy hy=>hv y A8
def aHo {e:Ty}{v:Value}{d:e.D}(hd:O5 e v=ah d) (l:List e.D) (es:List MapEntry) (s:Nat) (hk:es.map (·.key)=List.map (aBU e) l) (hv:∀x,x∈es->x.val=.bool U):
  (mC e d l=U/\∃s',aA (m9 e) v es s=ah (ah (s',.bool U)))\/(mC e d l=X/\aA (m9 e) v es s=ah aj):=by
 have hvv:=aQf hd
 subst hvv;cases e with
 |int k=>exact aFM l es s hk hv
 |str=>exact aFL l es s hk hv
 |bool=>simp [O5] at hd
 |sl _=>simp [O5] at hd
 |pair _ _=>simp [O5] at hd
def aDS {t:TypeId}{e:Ty}(h:aK P t=ah e):∃kt et,P.underlying t=ah (.map kt et)/\P.underlying et=ah .bool/\P.underlying kt=ah (m9 e)/\(∀(b:Bool) (v:Value) (w':World),(Instr.checkKey b 10000 kt v).run P w'=.ok () w')/\I6 P et=ah (.bool X):=by
 unfold aK at h;split at h
 ·rename_i kt et hu
  split at h
  ·rename_i k h1 h2 h3
   simp only [Af] at h;subst h;exact ⟨kt,et,hu,h1,h2,λb v w'=>ml h2 b v w',h3⟩
  ·rename_i h1 h2 h3
   simp only [Af] at h;subst h;exact ⟨kt,et,hu,h1,h2,λb v w'=>by unfold Instr.checkKey;simp [CY h2],h3⟩
  ·cases h
 ·cases h
theorem ada {t:TypeId}{x q lv:LV}{y z:Value}(hW:RW G w0 Z0 Z β H w) (h:(XH P H t x q).all λr=>r=lv) (hr:R β Z w x y) (hq:R β Z w q z) (hk:okV (M H) x):
  ∃v,(∀w',(∀b,(Z b\/∃k,x=.om k/\b=(β k).b)->w'.heap[b]? =w.heap[b]?)->(Instr.lookup t y z X).run P w'=.ok v w')/\R β Z w lv v/\okV (M H) lv:=by
 unfold XH at h;split at h
 ·rename_i k
  split at h
  ·rename_i c0 bt e l pp hb
   unfold aaJ at h;split at h
   ·rename_i e' v hs hp
    split at h
    ·rename_i he d _ hd
     obtain ⟨he⟩:=he;subst he;subst h;obtain ⟨kt,et,u1,u2,u3,u4,u5⟩:=aDS hs;obtain ⟨b1,b2⟩:=hW.blk k _ hb;obtain ⟨es,clock,g1,g2,g3⟩:=b1;simp only [R] at hr
     have hzq:=Cf hp hq
     rcases aHo hd l es.toList 0 g2 g3 with ⟨m1,s',m2⟩ |⟨m1,m2⟩
     ·refine ⟨.bool U,λw' hw'=>?_,by simp only [R,m1],ak⟩
      have hh':w'.heap[(β k).b]? =ah (.map es clock):=A8
      have hget:(getObj (β k).b).run P w'=.ok (.map es clock) w':=lI
      simp [Instr.lookup,CY u1,hr,hget,u4,Instr.findKey,CY u3,hzq,m2]
     ·refine ⟨.bool X,λw' hw'=>?_,by simp only [R,m1],ak⟩
      have hh':w'.heap[(β k).b]? =ah (.map es clock):=A8
      have hget:(getObj (β k).b).run P w'=.ok (.map es clock) w':=lI
      have hz0:=λw=>mv u5 w
      simp [Instr.lookup,CY u1,hr,hget,u4,Instr.findKey,CY u3,hzq,m2,hz0]
    ·cases h
   ·cases h
  ·exact adZ hW h hr hq hk
 ·exact adZ hW h hr hq hk
theorem adi {t:TypeId}{x q r:LV}{y z u:Value}{H':List AB}(hW:RW G w0 Z0 Z β H w) (h:(insL P H t x q r).all λr=>r=H') (hr:R β Z w x y) (hq:R β Z w q z) (hu:R β Z w r u) (hrk:okV (M H) r):
  ∃w',(Instr.mapUpdate t y z u).run P w=.ok () w'/\RW G w0 Z0 Z β H' w'/\M H'=M H/\(∀b,Z b->w'.heap[b]? =w.heap[b]?)/\DL (DN β H<|owns x) w w':=by
 unfold insL at h;split at h
 ·rename_i k
  split at h
  ·rename_i c0 bt e l hb
   split at h
   ·rename_i e' v hs hp
    split at h
    ·rename_i he d _ hd
     obtain ⟨he⟩:=he;subst he;obtain ⟨hnm,h⟩:=h;subst h;obtain ⟨kt,et,u1,u2,u3,u4,u5⟩:=aDS hs;obtain ⟨b1,b2⟩:=hW.blk k _ hb;obtain ⟨es,clock,g1,g2,g3⟩:=b1;simp only [R] at hr hu
     have hzq:=Cf hp hq
     have hlt:=(HM.1 g1).1
     have hget:(getObj (β k).b).run P w=.ok (.map es clock) w:=aNX
     let w':World:={w with heap:=w.heap.setIfInBounds (β k).b<|.map (es.push {key:=z,val:=u,born:=clock})<|clock+1}
     have hset:(setObj (β k).b<|.map (es.push {key:=z,val:=u,born:=clock})<|clock+1).run P w=.ok () w':=aNn
     have hfn:aA (m9 e') v es.toList 0=ah none:=by
      rcases aHo hd l es.toList 0 g2 g3 with ⟨m1,_⟩ |⟨_,m2⟩
      ·grind
      ·exact m2
     have hlive:=trivial
     have hne:∀j,j≠(β k).b->w'.heap[j]? =w.heap[j]? :=λj hj=>A8
     have hZw:∀b',Z b'->w'.heap[b']? =w.heap[b']? :=λb' hz=>hne b' λe=>hW.Ci k _ hb hlive rfl<|e▸hz
     refine ⟨w',?_,?_,AJ,hZw,⟨rfl,rfl,rfl,lT,λj _ hj=>hne j λe=>hj<|e▸TG hb hlive rfl⟩⟩
     ·rw [hzq] at hset
      simp [Instr.mapUpdate,CY u1,hr,hget,u4,Instr.findKey,CY u3,hzq,hfn,hset]
     ·refine hW.set hb hlive rfl rfl ⟨ak,ak⟩ lT ⟨rfl,rfl,rfl⟩ hne ?_
      refine ⟨es.push {key:=z,val:=u,born:=clock},clock+1,by simp [w',hlt],?_,λx hx=>?_⟩
      ·rw [Array.toList_push,Jw,Jw,g2]
       simp [hzq,aQf hd]
      ·rw [Array.toList_push,By] at hx
       rcases hx with hx|hx
       ·exact g3 x hx
       ·grind
    ·cases h
   ·cases h
  ·exact aCw hW h hr hq hu hrk
 ·exact aCw hW h hr hq hu hrk
theorem RW.ayb {kd:IntKind}{t:TypeId}(hW:RW G w0 Z0 Z β H w):
  ∃β',(∀k,k<M H->β' k=β k)/\(β'<|M H).b=w.heap.size/\RW G w0 Z0 Z β' (H++[⟨[],t,.mp kd [] [],X⟩]) (w.alloc<|.map #[] 0)/\Below w.heap.size w (w.alloc<|.map #[] 0):=by
 have hbw:Below w.heap.size w (w.alloc<|.map #[] 0):=(Below.refl _ _).alloc (Av _) _
 obtain ⟨β',h1,h2,h3⟩:=(hW.same hbw).KM (ℓ:=⟨w.heap.size,0,aj⟩) (nb:=⟨[],t,.mp kd [] [],X⟩) rfl ⟨ak,ak⟩ (λ_=>⟨λhz=>Zy,hW.below.size,λj bj hj lj e=>Sj⟩) (λβ' h1 h2=>by
  simp only [BX,h2];refine ⟨#[],0,?_,AJ,aE⟩
  show (w.heap.push _)[w.heap.size]? =_
  simp)
 grind
theorem RW.aya {e:Ty}{t:TypeId}(hW:RW G w0 Z0 Z β H w):
  ∃β',(∀k,k<M H->β' k=β k)/\(β'<|M H).b=w.heap.size/\RW G w0 Z0 Z β' (H++[⟨[],t,.st e [],X⟩]) (w.alloc<|.map #[] 0)/\Below w.heap.size w (w.alloc<|.map #[] 0):=by
 have hbw:Below w.heap.size w (w.alloc<|.map #[] 0):=(Below.refl _ _).alloc (Av _) _
 obtain ⟨β',h1,h2,h3⟩:=(hW.same hbw).KM (ℓ:=⟨w.heap.size,0,aj⟩) (nb:=⟨[],t,.st e [],X⟩) rfl ⟨ak,ak⟩ (λ_=>⟨λhz=>Zy,hW.below.size,λj bj hj lj e=>Sj⟩) (λβ' h1 h2=>by
  simp only [BX,h2];refine ⟨#[],0,?_,AJ,AJ⟩
  show (w.heap.push _)[w.heap.size]? =_
  simp)
 grind
end Go.Sx
namespace Go.Sx
open Go Go.RowKit Go.Proofs.YtpfblnbippcdjaaGreatDoor
variable {P : Program} {G : Az} {Γ : Specs} {β : Nat -> Loc} {Z : Nat -> Prop} {Z0 : Gz} {w w0 : World} {F : List LV} {H : List AB} {a : Act} {ds : List Deferred}
abbrev β0:Nat->Loc:=λ_=>⟨0,0,aj⟩
def Valid (P:Program) (G:Az) (f:FuncId) (S:List LV->T LV):Prop:=
 ∀(args:List LV) (vals:Array Value) (w:World) (Z:Nat->Prop) (lv:LV),(∀b,Z b->b<w.heap.size)->Pe G Z w->AS 0 args->RL β0 Z w args vals.toList->(S args).all (λx=>x=lv)->
  Calls P f vals w λe w'=>Below w.heap.size w w'/\∃v,e=.returned v/\okV 0 lv/\R β0 (λb=>Z b\/(w.heap.size<=b/\b<w'.heap.size)) w' lv v
mutual
def noOwn_ok {n:Nat}:∀(x:LV),noOwn x=U->okV n x->okV 0 x
 | .v _,_,_=>trivial
 | .bl _,_,_=>trivial
 | .ki _ _,_,_=>trivial
 | .own _ _,h,_=>lF
 | .agg l,h,hk=>Zu
 | .AM l,h,hk=>Zu
 | .fn _ l,h,hk=>Zu
 | .fb _ l,h,hk=>Zu
 | .xq _ _,_,hk=>aNU
 | .os ..,h,_=>lF
 | .op ..,h,_=>lF
 | .om _,h,_=>lF
 | .mp _ _ l,h,hk=>Zu
 | .xl _ _,_,_=>trivial
 | .junk,_,_=>trivial
def noOwnL_ok {n:Nat}:∀(x:List LV),noOwnL x=U->AS n x->AS 0 x
 | [],_,_=>trivial
 |x::xs,h,hk=>by
  simp only [AS,noOwnL,AY] at*;exact ⟨noOwn_ok x h.1 hk.1,noOwnL_ok xs h.2 hk.2⟩
end
def aD1 {t:T LV}{lv:LV}(h:(QS t).all λx=>x=lv):t.all (λx=>x=lv)/\S5 lv=true:=by
 induction t with
 |ok x=>
  simp only [QS] at h;split at h
  ·rename_i hp;simp only [T.all] at h|-;subst h;exact ⟨rfl,hp⟩
  ·cases h
 |br b t e iht ihe=>
  cases b with
  |true=>obtain ⟨h1,h2⟩:=iht<|h.1 rfl;exact ⟨⟨λ_=>h1,λhb=>L4⟩,h2⟩
  |false=>obtain ⟨h1,h2⟩:=ihe<|h.2 rfl;exact ⟨⟨λhb=>L4,λ_=>h1⟩,h2⟩
 |req p t ih=>
  obtain ⟨h1,h2⟩:=ih h.2;exact ⟨⟨h.1,h1⟩,h2⟩
 |no=>cases h
def Ou (G:Az) (F:List LV) (β:Nat->Loc) (H:List AB) (o:Oper):List Nat:=DN β H<|EY G F o
def Post (ds:List Deferred) (G:Az) (w0:World) (Z0:Gz) (F:List LV) (a:Act) (β:Nat->Loc) (H:List AB) (w:World) (o:Oper) (lv:LV) (H':List AB) (v:Value) (w':World):Prop:=
 ∃Z' β',RW G w0 Z0 Z' β' H' w'/\RF ds β' Z' w' (M H') F a/\R β' Z' w' lv v/\okV (M H') lv/\
  (M H)<=M H'/\(∀k,k<M H->β' k=β k)/\(∀k,M H<=k->k<M H'->w.heap.size<=(β' k).b\/(β' k).b∈Ou G F β H o)/\DL (Ou G F β H o) w w'
def N9 {tr:List Nat}{w w':World}(h:Below w.heap.size w w'):DL tr w w':=⟨h.os,h.tape,h.output,h.size,λk hk _=>h.block k hk⟩
def aDA {o:Oper}{lv:LV}{v:Value}(hW:RW G w0 Z0 Z β H w) (hF:RF ds β Z w (M H) F a) (hrun:(execOp a.eval o).run P w=.ok (.value v) w) (hr:R β Z w lv v) (hk:okV (M H) lv):
  DV P (Post ds G w0 Z0 F a β H w o lv H) ((execOp a.eval o).run P w):=by
 rw [hrun];exact ⟨Z,β,hW,hF,hr,hk,Av _,λ_ _=>rfl,λk h1 h2=>A0,DL.refl _ _⟩
def aBy {α:Type}{s:Sem α}{x:α}(h:Ic P s=ah x):∀w',s.run P w'=.ok x w':=λw'=>bY w' h
mutual
def eqV_run:∀(d:Nat) (t:TypeId) (x y:Value) (b:Bool),eqV P d t x y=ah b->∀(e:Nat) (w:World),(Go.Op.equalIn (d+e) t x y).run P w=.ok b w
 |0,_,_,_,_,h=>by simp [eqV] at h
 | d+1,t,x,y,b,h=>λe w=>by
  rw [Nat.add_right_comm];simp only [eqV] at h;split at h
  ·rename_i k0 k a k' c hu
   split at h
   ·rename_i hk
    subst hk;simp only [Af] at h;subst h;exact run_equalIn_int w _ t k k0 a c hu
   ·cases h
  ·rename_i a c hu
   simp only [Af] at h;subst h;exact run_equalIn_bool w _ t a c hu
  ·rename_i a c hu
   simp only [Af] at h;subst h;rw [run_equalIn_string w _ t a c hu,beq_toListBytes]
  ·rename_i fs xs ys hu
   split at h
   ·cases h
   ·rename_i hs
    have hf:P.fieldsOf t=fs:=by simp [Program.fieldsOf,hu]
    rw [run_equalIn_struct w _ t xs ys (by rw [hf];exact hu) (by simpa using hs),hf]
    simp only [Option.map_eq_some_iff] at h;obtain ⟨l,h1,h2⟩:=h;rw [<-h2];exact eqFs_run d xs ys fs.toList l h1 e w
  ·cases h
def eqFs_run:∀(d:Nat) (xs ys:Array Value) (fs:List Field) (l:List Bool),eqFs P d xs ys fs=ah l->∀(e:Nat) (w:World),(Go.Op.eqFields (d+e) xs ys fs).run P w=.ok (Ur l) w
 |d,xs,ys,[],l,h=>λe w=>by
  have:l=[]:=by cases d<;>simpa [eqFs] using h.symm
  subst this
  simp [Go.Op.eqFields,Ur]
 |0,xs,ys,f::fs,l,h=>by simp [eqFs] at h
 | d +1,xs,ys,f::fs,l,h=>λe w=>by
  simp only [eqFs] at h;split at h
  ·cases h
  ·rename_i hn
   split at h
   ·rename_i x y hx hy
    split at h
    ·rename_i p ps hp hps
     simp only [Af] at h;subst h
     have e1:=aBy hx w
     have e2:=aBy hy w
     have e3:=eqV_run d f.type x y p hp (1+e) w
     have e4:=eqFs_run d xs ys fs ps hps (1+e) w
     rw [<-HO] at e3 e4;simp only [Go.Op.eqFields,hn,ne_eq,not_false_eq_true,Bm,kC,e1,e2,e3,kH,Sem.run_ite,xG,e4];cases p with
     |false=>cases ps<;>simp [Ur]
     |true=>cases ps<;>simp [Ur]
    ·cases h
   ·cases h
end
def afp {o:Oper}{e:Operand->Value}{y:Value}(h:QX P o.op e=ah (ah y)) (w:World):(execOp e o).run P w=.ok (.value y) w:=by
 unfold QX at h;split at h
 ·rename_i op t x z t' ho
  split at h
  ·rename_i neg hneg
   split at h
   ·rename_i xs ys hx hy
    split at h
    ·rename_i g1 b g2 g3
     have e1:=aBy g2 w
     have e2:=eqV_run 100 t _ _ b g3 9900 w
     simp only [Af] at h;unfold aRC at hneg;split at hneg
     ·simp only [Af] at hneg
      subst hneg h
      simp [execOp,ho,hx,hy,e1,run_eql_struct,e2]
     ·simp only [Af] at hneg
      subst hneg h
      simp [execOp,ho,hx,hy,e1,run_neq_struct,e2]
     ·cases hneg
    ·cases h
   ·cases h
  ·cases h
 ·cases h
def aEF {o:Oper}{e:Operand->Value}{y:Value}(h:OD P o e=ah y) (w:World):(execOp e o).run P w=.ok (.value y) w:=by
 unfold OD at h;split at h
 ·rename_i r hr
  subst h;exact afp hr w
 ·split at h
  ·rename_i z hz
   simp only [Af] at h;subst h;exact bY w hz
  ·cases h
def aKF (y:Value):R β Z w (kn y) y:=by cases y<;>simp only [kn,R]
def abb {n:Nat}(y:Value):okV n (kn y):=by cases y<;>trivial
theorem aeu {o:Oper}{lv:LV}(hsel:∀cs b,o.op≠ .select cs b) (hW:RW G w0 Z0 Z β H w) (hF:RF ds β Z w (M H) F a) (h:(DY P G F o).all λx=>x=lv):
  DV P (Post ds G w0 Z0 F a β H w o lv H) ((execOp a.eval o).run P w):=by
 unfold DY at h;split at h
 ·rename_i hpl
  split at h
  ·rename_i y hy
   have hcong:execOp a.eval o=execOp (λx=>(pl<|AL G F x).getD undef) o:=kX o hsel λx hx=>by
    have h1:=BR.1 hpl x A8
    obtain ⟨z,hz⟩:=ZD.1 h1;rw [hz];exact Cf hz (hF.eval hW.CZ x).1
   refine aDA hW hF (v:=y) ?_ ?_ ?_
   ·rw [hcong];exact aEF hy w
   ·rw [<-h]
    split
    ·exact aKF y
    ·exact Dh
   ·rw [<-h]
    split
    ·exact abb y
    ·trivial
  ·cases h
 ·cases h
theorem adV {c x y lv:LV}{vc vx vy:Value}{n:Nat}(h:(gg c x y).all λz=>z=lv) (hc:R β Z w c vc) (hx:R β Z w x vx) (hy:R β Z w y vy) (kx:okV n x) (ky:okV n y):
  ∃g,vc=.bool g/\R β Z w lv (if g then vx else vy)/\okV n lv:=by
 unfold gg at h;split at h
 ·simp only [T.all] at h;subst h;exact ⟨U,hc,hx,kx⟩
 ·simp only [T.all] at h;subst h;exact ⟨X,hc,hy,ky⟩
 ·rename_i g
  refine ⟨g,hc,?_⟩
  have hx':=Ov hx
  have hy':=Ov hy
  split at h
  ·rename_i h1 h2
   split at h
   ·rename_i hk;simp only [T.all] at h;subst h hk;rw [h1] at hx';rw [h2] at hy';simp only [R] at hx' hy'|-;subst hx' hy';exact ⟨A8,ak⟩
   ·cases h
  ·rename_i h1 h2
   simp only [T.all] at h;subst h;rw [h1] at hx';rw [h2] at hy';simp only [R] at hx' hy'|-;subst hx' hy';exact ⟨A8,ak⟩
  ·simp only [T.all] at h
   cases g with
   |true=>have:=h.1 rfl;subst this;exact ⟨hx,kx⟩
   |false=>have:=h.2 rfl;subst this;exact ⟨hy,ky⟩
 ·cases h
theorem aDK {t:TypeId}{l:List LV}{lv:LV}{ys:Array Value}{i n:Nat}(h:(wF P t l i).all λz=>z=lv) (hr:RL β Z w l ys.toList) (hk:AS n l):
  ∃z,(∀w',(Instr.field t (.agg ys) i).run P w'=.ok z w')/\R β Z w lv z/\okV n lv:=by
 unfold wF at h;split at h
 ·rename_i fs hu
  split at h
  ·rename_i f hf
   split at h
   ·rename_i m ha hs
    split at h
    ·simp only [T.all] at h
     subst h;refine ⟨.agg<|ys.extract f.offset<|f.offset+m,λw'=>?_,Vr ?_,QH<|hk.take_drop _ _⟩
     ·simp [Instr.field,CY hu,hf,asAgg,part,bx ha,run_sizeOf hs]
     ·have:=hr.take_drop f.offset m
      simp_all
    ·cases h
   ·rename_i ha
    split at h
    ·rename_i y hy
     subst h;obtain ⟨z,e4,e5⟩:=RL.get _ _ hr hy
     have e6:ys[f.offset]? =ah z:=A8
     refine ⟨z,λw'=>?_,e5,AS.get _ _ hk hy⟩
     simp [Instr.field,CY hu,hf,asAgg,part,bx ha,e6]
    ·cases h
   ·cases h
  ·cases h
 ·cases h
theorem adN {s:TypeId}{x lv:LV}{y:Value}{i n:Nat}(h:(Wj P s x i).all λz=>z=lv) (hr:R β Z w x y) (hk:okV n x):
  ∃z,(∀w',(Instr.fieldAt s y i).run P w'=.ok z w')/\R β Z w lv z/\okV n lv:=by
 unfold Wj at h;split at h
 ·rename_i fs hu
  split at h
  ·rename_i f hf
   split at h
   ·rename_i m hsz
    have e1:=λw=>run_sizeOf hsz w
    split at h
    ·rename_i k off
     simp only [R] at hr;refine ⟨.pointer<|ah ⟨(β k).b,off+f.offset,aj⟩,λw'=>?_,?_,?_⟩
     ·simp [Instr.fieldAt,CY hu,hf,Instr.sureAddr,hr,fieldPlace,e1,addr_add]
     ·rw [<-h];simp only [R]
     ·rw [<-h];simpa only [okV] using hk
    ·rename_i k es i' j
     obtain ⟨hcap,hr⟩:=hr;refine ⟨.pointer<|ah ⟨(β k).b,(β k).o+i'*es+(j+f.offset),aj⟩,λw'=>?_,?_,?_⟩
     ·simp [Instr.fieldAt,CY hu,hf,Instr.sureAddr,hr,fieldPlace,e1,addr_add,HO]
     ·rw [<-h];simp only [R];exact ⟨hcap,ak⟩
     ·rw [<-h];simpa only [okV] using hk
    ·rename_i q g
     split at h
     ·rename_i hle
      obtain ⟨b,off,h1,h2,h3⟩:=hr;refine ⟨.pointer<|ah ⟨b,off+f.offset,aj⟩,λw'=>?_,?_,?_⟩
      ·simp [Instr.fieldAt,CY hu,hf,Instr.sureAddr,h1,fieldPlace,e1,addr_add]
      ·rw [<-h]
       refine ⟨b,off+f.offset,rfl,h2,λj hj=>?_⟩
       have:=h3 (f.offset+j) A0
       grind
      ·rw [<-h];simp only [okV] at hk|-;exact λj=>hk _
     ·cases h
    ·cases h
   ·cases h
  ·cases h
 ·cases h
theorem bb {n:Int}{g:Nat->LV}{lv:LV}:∀(m j:Nat),(chain n g m j).all (λz=>z=lv)->∃i,j<=i/\i<j+m/\n=(i:Int)/\lv=g i
 |0,j,h=>An
 | m+1,j,h=>by
  simp only [chain,T.all] at h
  by_cases hn:n=(j:Int)
  ·grind
  ·obtain ⟨i,h1,h2,h3,h4⟩:=bb m (j+1) (h.2 A8)
   grind
def aDF {x:LV}{y:Value}{l:List LV}{n:Nat}(h:wL x=ah l) (hr:R β Z w x y) (hk:okV n x):∃ys:Array Value,y=.agg ys/\RL β Z w l ys.toList/\AS n l:=by
 unfold wL at h;split at h
 ·obtain rfl:=Dt h
  obtain ⟨ys,e1,e2⟩:=hr;exact ⟨ys,e1,e2,hk⟩
 ·rename_i ys
  obtain rfl:=Dt h;exact ⟨ys,hr,UY _,TS _ _⟩
 ·cases h
theorem aCx {t:TypeId}{l:List LV}{q lv:LV}{ys:Array Value}{z:Value}{n:Nat}(h:(aBX P t l q).all λr=>r=lv) (hr:RL β Z w l ys.toList) (hk:AS n l) (hq:R β Z w q z):
  ∃v,(∀w',(Instr.index t (.agg ys) z).run P w'=.ok v w')/\R β Z w lv v/\okV n lv:=by
 unfold aBX at h;split at h
 ·rename_i len e k j hu
  split at h
  ·rename_i y ha hs hy
   split at h
   ·rename_i hb
    subst h;simp only [R] at hq;obtain ⟨v,e4,e5⟩:=RL.get _ _ hr hy
    have e6:ys[j.toNat]? =ah v:=A8
    refine ⟨v,λw'=>?_,e5,AS.get _ _ hk hy⟩
    simp [Instr.index,hq,asIntOf,CY hu,hb.1,hb.2,part,bx ha,run_sizeOf hs,e6]
   ·cases h
  ·cases h
 ·cases h
theorem aBs {t:TypeId} {x q lv:LV} {y z:Value} {c:Bool} {N:Nat} (h:(TN P t x c q).all λr=>r=lv) (hr:R β Z w x y) (hq:R β Z w q z) (hk:okV N x):
  ∃v,(∀w',(Instr.indexAt t y z).run P w'=.ok v w')/\R β Z w lv v/\okV N lv:=by
 unfold TN at h;simp only [atW] at h;split at h
 ·rename_i kd n hpl
  have hz:=Cf hpl hq
  split at h
  ·rename_i len e hu
   split at h
   ·rename_i m hsz
    have e1:=λw=>run_sizeOf hsz w
    have fin:∀(b off i:Nat),i<len->n=(i:Int)->y=.pointer (ah ⟨b,off,aj⟩)->∀w',(Instr.indexAt t y z).run P w'=.ok (.pointer<|ah ⟨b,off+i*(m+1),aj⟩) w':=λb off i hi hn hy w'=>by
     have h0:(0:Int)<=n:=A0
     have h1:n<(len:Int):=A0
     have h2:n.toNat=i:=A0
     simp [Instr.indexAt,hz,asIntOf,CY hu,hy,Instr.sureAddr,h0,h1,e1,addr_add,h2]
    have own:∀(k off i:Nat),i<len->n=(i:Int)->R β Z w (.own k off) y->okV N (.own k off)->lv=.own k (off+i*(m+1))->∃v,(∀w',(Instr.indexAt t y z).run P w'=.ok v w')/\R β Z w lv v/\okV N lv:=λk off i hi hn hr hk hl=>by
     simp only [R] at hr;refine ⟨_,fin _ _ i hi hn hr,?_,?_⟩
     ·rw [hl];simp only [R]
     ·exact xr
    have opp:∀(k es i' j i:Nat),i<len->n=(i:Int)->R β Z w (.op k es i' j) y->okV N (.op k es i' j)->lv=.op k es i' (j+i*(m+1))->∃v,(∀w',(Instr.indexAt t y z).run P w'=.ok v w')/\R β Z w lv v/\okV N lv:=λk es i' j i hi hn hr hk hl=>by
     simp only [R] at hr;refine ⟨_,fin _ _ i hi hn hr.2,?_,?_⟩
     ·rw [hl];simp only [R,HO];exact ⟨hr.1,ak⟩
     ·exact xr
    have ext:∀(q:Nat) (g:Nat->LV) (i:Nat),i<len->len*(m+1)<=q->n=(i:Int)->R β Z w (.xq q g) y->okV N (.xq q g)->lv=.xq (m+1) (λj=>g<|i*(m+1)+j)->∃v,(∀w',(Instr.indexAt t y z).run P w'=.ok v w')/\R β Z w lv v/\okV N lv:=λq g i hi hle hn hr hk hl=>by
     simp only [R] at hr;obtain ⟨b,off,h1,h2,h3⟩:=hr;refine ⟨_,fin _ _ i hi hn h1,?_,?_⟩
     ·rw [hl]
      simp only [R];refine ⟨b,_,rfl,h2,λj hj=>?_⟩
      have hm:i*(m+1)+(m+1)<=len*(m+1):=by
       have:=N2 (m+1) (show i+1<=len by omega)
       rwa [Fu,SY] at this
      have:=h3 (i*(m+1)+j) A0
      rwa [<-HO] at this
     ·rw [hl];simp only [okV] at hk|-;exact λj=>hk _
    split at h
    ·rename_i k es i' j
     split at h
     ·split at h
      ·rename_i hb
       simp only [T.all] at h;exact opp k es i' j n.toNat A0 A0 hr hk h.symm
      ·cases h
     ·obtain ⟨i,_,h2,h3,h4⟩:=bb _ _ h
      exact opp k es i' j i A0 h3 hr hk h4
    ·rename_i k off
     split at h
     ·split at h
      ·rename_i hb
       simp only [T.all] at h;exact own k off n.toNat A0 A0 hr hk h.symm
      ·cases h
     ·obtain ⟨i,_,h2,h3,h4⟩:=bb _ _ h
      exact own k off i A0 h3 hr hk h4
    ·rename_i q g
     split at h
     ·rename_i hle
      split at h
      ·split at h
       ·rename_i hb
        simp only [T.all] at h;exact aMN
       ·cases h
      ·split at h
       ·obtain ⟨i,_,h2,h3,h4⟩:=bb _ _ h
        exact ext q g i A0 hle h3 hr hk h4
       ·simp only [T.all] at h
        obtain ⟨⟨b1,b2⟩,h⟩:=h;exact aMN
     ·cases h
    ·cases h
   ·cases h
  ·rename_i e hu
   split at h
   ·rename_i m e' l hsz
    split at h
    ·rename_i hes
     simp only [T.all] at h;obtain ⟨⟨h0,h1⟩,h2⟩:=h;simp only [R] at hr;obtain ⟨ad,cap,g1,gc,g2⟩:=hr;obtain ⟨b,off,g3,g4,g5⟩:=g2 A0
     have e1:=λw=>run_sizeOf hsz w
     have hlt:n.toNat<M l:=A0
     have hgx:l[n.toNat]? =ah (gx l n):=A8
     have g6:=g5 n.toNat _ hgx
     refine ⟨.pointer<|ah ⟨b,off+n.toNat*(m+1),aj⟩,λw'=>?_,?_,?_⟩
     ·simp [Instr.indexAt,hz,asIntOf,CY hu,g1,g3,h0,h1,e1,addr_add]
     ·rw [<-h2]
      simp only [R];refine ⟨b,_,rfl,g4,λj hj=>?_⟩
      rw [hes] at g6
      have hjl:j<M (Bq e'<|gx l n):=yW
      exact Wk e' _ b _ g6 j _<|getD_lt hjl
     ·rw [<-h2]
      simp only [okV];exact λj=>dO (NK 0 e' _) j
    ·cases h
   ·rename_i m k es off len hsz
    split at h
    ·rename_i hes
     simp only [T.all] at h;obtain ⟨⟨h0,h1⟩,h2⟩:=h
     have e1:=λw=>run_sizeOf hsz w
     simp only [R] at hr;split at hr
     ·obtain ⟨rfl,_,_⟩:=hr
      exact absurd h1 D2
     ·rename_i c hcap
      obtain ⟨g1,ad,g2,g3⟩:=hr
      have g3:=g3 A0
      refine ⟨.pointer<|ah ⟨(β k).b,(β k).o+(off+n.toNat)*es+0,aj⟩,λw'=>?_,?_,?_⟩
      ·simp [Instr.indexAt,hz,asIntOf,CY hu,g2,g3,h0,h1,e1,addr_add,hes,Fu,HO]
      ·rw [<-h2];simp only [R];exact ⟨by rw [hcap];simp,ak⟩
      ·rw [<-h2];simpa only [okV] using hk
    ·cases h
   ·rename_i m k es off len cp hsz
    split at h
    ·rename_i hes
     have e1:=λw=>run_sizeOf hsz w
     have own:∀(i:Nat),i<len->n=(i:Int)->lv=.own k ((off+i)*(m+1))->∃v,(∀w',(Instr.indexAt t y z).run P w'=.ok v w')/\R β Z w lv v/\okV N lv:=λi hi hn hl=>by
      simp only [R] at hr;obtain ⟨g1,ad,g2,g3⟩:=hr
      have g3:=g3 A0
      have h0:(0:Int)<=n:=A0
      have h1:n<(len:Int):=A0
      have h2:n.toNat=i:=A0
      refine ⟨.pointer<|ah ⟨(β k).b,(off+i)*(m+1),aj⟩,λw'=>?_,?_,?_⟩
      ·simp [Instr.indexAt,hz,asIntOf,CY hu,g2,g3,h0,h1,e1,addr_add,hes,Fu,h2]
      ·rw [hl];simp only [R]
      ·exact xr
     split at h
     ·split at h
      ·rename_i hb
       simp only [T.all] at h;exact own n.toNat A0 A0 h.symm
      ·cases h
     ·obtain ⟨i,_,h2,h3,h4⟩:=bb _ _ h
      exact own i A0 h3 h4
    ·cases h
   ·cases h
  ·cases h
 ·cases h
theorem aFK (off:Nat):∀(l:List Value) (s:Nat) (zs:Array Value) (i:Nat),off+s+M l<=zs.size->
  ((l.zipIdx s).foldl (λ(cs:Array Value) p=>cs.setIfInBounds (off+p.2) p.1) zs).size=zs.size/\
  ((l.zipIdx s).foldl (λ(cs:Array Value) p=>cs.setIfInBounds (off+p.2) p.1) zs)[i]? =if off+s<=i/\i<off+s+M l then l[i-(off+s)]? else zs[i]?
 | [],s,zs,i,_=>by simp;intro h1 h2;omega
 | x::xs,s,zs,i,h=>by
  simp only [List.zipIdx_cons,Ky];obtain ⟨h1,h2⟩:=aFK off xs (s+1) (zs.setIfInBounds (off+s) x) i A8;refine ⟨A8,?_⟩;rw [h2];simp only [Bi] at h|-
  by_cases hi:i=off+s
  ·subst hi
   rw [AE A0,AD A0,Array.getElem?_setIfInBounds,AD rfl,AD A0]
   simp
  ·by_cases hr:off+(s+1)<=i/\i<off+(s+1)+M xs
   ·rw [AD hr,AD A0]
    grind
   ·rw [AE hr,AE A0]
    grind
theorem aew (off:Nat) (vs zs:Array Value) (h:off+vs.size<=zs.size):
  (vs.zipIdx.foldl (λ(cs:Array Value) (p:Value×Nat)=>cs.setIfInBounds (off+p.2) p.1) zs).toList=zs.toList.take off++vs.toList++zs.toList.drop (off+M vs.toList):=by
 have e:vs.zipIdx.foldl (λ(cs:Array Value) (p:Value×Nat)=>cs.setIfInBounds (off+p.2) p.1) zs=(vs.toList.zipIdx 0).foldl (λ(cs:Array Value) p=>cs.setIfInBounds (off+p.2) p.1) zs:=by
  rw [<-Array.foldl_toList];simp
 rw [e]
 apply List.ext_getElem?
 intro i
 have:=(aFK off vs.toList 0 zs i A8).2
 rw [Array.getElem?_toList,this];simp only [Za,wb]
 by_cases h1:i<off
 ·grind
 ·by_cases h2:i<off+vs.size
  ·rw [AD A0,Cm,GC A8,HL A8]
   grind
  ·rw [AE A0,GC A8,Ew]
   simp
   congr 1
   omega
theorem bZ {place:Nat->Option (Nat×Nat)}{n:Nat}:∀(pl:List<|Nat×LV) (pv:List<|Nat×Value) (cells cs:List LV) (zs:Array Value),KU place cells pl=ah cs->pv.map (·.1)=pl.map (·.1)->
  RL β Z w (pl.map (·.2)) (pv.map (·.2))->AS n (pl.map (·.2))->RL β Z w cells zs.toList->AS n cells->∃zs',Instr.fill place zs pv=ah zs'/\RL β Z w cs zs'.toList/\AS n cs
 | [],pv,cells,cs,zs,h,hp,hr,_,hc,hok=>by
  simp only [KU,Af] at h;subst h
  have:pv=[]:=Fv
  subst this;exact ⟨zs,rfl,hc,hok⟩
 | (i,x)::rest,pv,cells,cs,zs,h,hp,hr,hk,hc,hok=>by
  cases pv with
  |nil=>simp at hp
  | cons q qs=>
   obtain ⟨i',v⟩:=q;simp only [E8,HN] at hp;obtain ⟨rfl,hp'⟩:=hp;obtain ⟨y,ys,e1,e2,e3⟩:=hr;obtain ⟨rfl,rfl⟩:=e1;simp only [KU] at h;split at h
   ·rename_i off size c hpl hcl
    split at h
    ·rename_i hle
     obtain ⟨c1,c2⟩:=nr hcl e2
     have c3:=nR hcl hk.1
     have l1:=RL.length c1
     have l2:=RL.length hc
     have hle2:off+v.cells.size<=zs.size:=A8
     have hset:=aew off v.cells zs hle2
     have hrl:=RL.setAt hc c1 off
     rw [<-hset] at hrl;obtain ⟨zs',f1,f2,f3⟩:=bZ rest qs _ cs _ h hp' e3 hk.2 hrl<|AS.setAt hok c3 off;refine ⟨zs',?_,f2,f3⟩;simp only [Instr.fill,hpl]
     grind
    ·cases h
   ·cases h
def adK {t:TypeId}{pl:List<|Nat×LV}{pv:Array<|Nat×Value}{lv:LV}{n:Nat}(h:(NR P t pl).all λz=>z=lv) (hp:pv.toList.map (·.1)=pl.map (·.1)) (hr:RL β Z w (pl.map (·.2))<|pv.toList.map (·.2)) (hk:AS n<|pl.map (·.2)):
  ∃v,(∀w',(Instr.build t pv).run P w'=.ok v w')/\R β Z w lv v/\okV n lv:=by
 unfold NR at h;split at h
 ·rename_i z pf hz hpf
  split at h
  ·rename_i cs hcs
   obtain ⟨zs',f1,f2,f3⟩:=bZ (β:=β) (Z:=Z) (w:=w) (n:=n) pl pv.toList _ cs z.cells hcs hp hr hk (UY _)<|TS _ _;refine ⟨.agg zs',λw'=>run_build w' t pv zs' ?_,?_,?_⟩
   ·unfold I6 at hz
    unfold aP0 at hpf;unfold Program.built;cases hi:P.info? t with
    |none=>simp [hi] at hz
    | some it=>
     simp only [hi,ON] at hz;split at hpf
     ·rename_i fields hu
      cases hm:fields.toList.mapM (λf=>(P.info? f.type).map λi=>(f.offset,i.size)) with
      |none=>simp [hm] at hpf
      |some ps=>
       simp only [hm,JG,Af] at hpf;simp only [hu,hz,hm];rw [<-hpf] at f1;exact f1
     ·rename_i e hu
      cases hm:P.info? e with
      |none=>simp [hm] at hpf
      |some ie=>
       simp only [hm,JG,Af] at hpf;simp only [hu,hz,hm];rw [<-hpf] at f1;exact f1
     ·cases hpf
   ·rw [<-h]
    split
    ·simp only [R];exact ⟨zs',rfl,f2⟩
    ·exact Vr f2
   ·rw [<-h]
    split
    ·exact f3
    ·exact QH f3
  ·cases h
 ·cases h
def df {x:Operand}{y:Value}{n:Nat}(h:R β Z w (AL G F x) y/\okV n (AL G F x)):R β Z w (HZ G F x) y/\okV n (HZ G F x):=by
 cases x with
 |const v=>exact ⟨Ov h.1,T6 h.2⟩
 |tmp t=>exact h
 |global g=>exact h
 |func f=>exact h
theorem tj (e:Ty):∀(n:Nat) (cs:List LV) (l:List e.D) (ys:List Value),aR e n cs=ah l->RL β Z w cs ys->M l=n/\∀(Z':Nat->Prop) (w':World) (b o:Nat),(∀b,Z b->Z' b)->(∀b,Z b->w'.heap[b]? =w.heap[b]?)->(∀(j:Nat) v,ys[j]? =ah v->w'.cell? ⟨b,o+j,aj⟩=ah v)->∀(i:Nat) (d:e.D),l[i]? =ah d->RD Z' w' e d b (o+i*e.n)
 |0,cs,l,ys,h,hr=>by
  simp only [aR,Af] at h
  grind
 | n +1,cs,l,ys,h,hr=>by
  simp only [aR] at h;split at h
  ·rename_i d r hd hr'
   simp only [Af] at h;subst h
   have h1:RL β Z w (cs.take e.n) (ys.take e.n):=by simpa using hr.take_drop 0 e.n
   have h2:RL β Z w (cs.drop e.n) (ys.drop e.n):=by
    refine RL.CS (by simp [RL.length hr]) λi z hz=>?_
    rw [Ew] at hz|-;exact RL.get _ _ hr hz
   obtain ⟨k1,k2⟩:=tj e n _ r _ hr' h2;refine ⟨A8,λZ' w' b o hZ hw hc i d' hd'=>?_⟩
   cases i with
   |zero=>
    simp at hd'
    subst hd';rw [kW,Za];refine tl hZ hw e _ d _ hd h1 b o λj v hv=>?_
    rw [L1] at hv;split at hv
    ·grind
    ·cases hv
   | succ i=>
    have:=k2 Z' w' b (o+e.n) hZ hw (λj v hv=>by
     rw [Ew] at hv
     have:=hc (e.n+j) v hv
     rwa [<-HO] at this) i d' hd'
    grind
  ·cases h
def aD6 {t:TypeId}{len:Nat}{pl:List<|Nat×LV}{pv:Array<|Nat×Value}{lv:LV}{n:Nat}(h:(Lc P t len pl).all λz=>z=lv) (hp:pv.toList.map (·.1)=pl.map (·.1)) (hr:RL β Z w (pl.map (·.2))<|pv.toList.map (·.2)) (hk:AS n<|pl.map (·.2)):
  ∃elem cells,(∀w',(Instr.buildSlice t len pv).run P w'=.ok (.slice (ah ⟨w'.heap.size,0,aj⟩) len len) (w'.alloc<|.cells cells elem))/\
   (∀(β':Nat->Loc) (Z':Nat->Prop) (w':World) (b:Nat),(∀b,Z b->Z' b)->(∀b,Z b->w'.heap[b]? =w.heap[b]?)->(∀(j:Nat) v,cells.toList[j]? =ah v->w'.cell? ⟨b,0+j,aj⟩=ah v)->Z' b->R β' Z' w' lv (.slice (ah ⟨b,0,aj⟩) len len))/\okV n lv:=by
 unfold Lc at h;split at h
 ·rename_i e hu
  split at h
  ·rename_i ty m z hty hsz hz
   split at h
   ·rename_i hcond
    split at h
    ·rename_i cs hcs
     split at h
     ·rename_i l hl
      have hz0:RL β Z w ((au<|len*m).map λi=>LV.v<|z.cells[i%z.cells.size]!) ((Array.range<|len*m).map λi=>z.cells[i%z.cells.size]!).toList:=by
       exact xW
      have hok0:AS n ((au<|len*m).map λi=>LV.v<|z.cells[i%z.cells.size]!):=by
       exact aLM
      obtain ⟨zs',f1,f2,f3⟩:=bZ (β:=β) (Z:=Z) (w:=w) (n:=n) pl pv.toList _ cs _ hcs hp hr hk hz0 hok0;obtain ⟨k1,k2⟩:=tj ty len cs l _ hl f2;refine ⟨e,zs',λw'=>?_,λβ' Z' w' b hZ hw hc hzb=>?_,by rw [<-h];trivial⟩
      ·exact xD
      ·rw [<-h]
       refine ⟨_,len,by rw [k1],A0,λ_=>⟨b,0,rfl,hzb,λi d hd=>?_⟩⟩
       exact k2 Z' w' b 0 hZ hw hc i d hd
     ·cases h
    ·cases h
   ·cases h
  ·cases h
 ·cases h
def aE7 {place:Nat->Option (Nat×Nat)}:∀ {pl:List<|Nat×LV}{cells cs:List LV},KU place cells pl=ah cs->M cs=M cells
 | [],cells,cs,h=>by
  simp only [KU,Af] at h;rw [h]
 | (i,x)::rest,cells,cs,h=>by
  simp only [KU] at h;split at h
  ·split at h
   ·rename_i off size c _ _ hcond
    rw [aE7 h];simp only [setAt,BD,M6,Eu];omega
   ·cases h
  ·cases h
theorem anV {t e:TypeId}{ty:Ty}{l:List ty.D}{len:Nat}{pl:List<|Nat×LV}{pv:Array<|Nat×Value}{n:Nat}(hu:P.underlying t=ah (.slice e)) (h:(Lc P t len pl).all λz=>z=.xl ty l) (hp:pv.toList.map (·.1)=pl.map (·.1)) (hr:RL β Z w (pl.map (·.2))<|pv.toList.map (·.2)) (hk:AS n<|pl.map (·.2)):
  ∃cells:Array Value,(∀w',(Instr.buildSlice t len pv).run P w'=.ok (.slice (ah ⟨w'.heap.size,0,aj⟩) len len) (w'.alloc<|.cells cells e))/\M l=len/\cells.size=len*ty.n/\
   (∀(w':World) (b:Nat),(∀b,Z b->w'.heap[b]? =w.heap[b]?)->(∀(j:Nat) v,cells.toList[j]? =ah v->w'.cell? ⟨b,0+j,aj⟩=ah v)->∀(i:Nat) (d:ty.D),l[i]? =ah d->RD Z w' ty d b (0+i*ty.n)):=by
 unfold Lc at h;rw [hu] at h;simp only at h;split at h
 ·rename_i ty0 m z hty hsz hz
  split at h
  ·rename_i hcond
   split at h
   ·rename_i cs hcs
    split at h
    ·rename_i l0 hl
     simp only [T.all,LV.xl.injEq] at h;obtain ⟨rfl,h⟩:=h;obtain rfl:=eq_of_heq h
     have hz0:RL β Z w ((au<|len*m).map λi=>LV.v<|z.cells[i%z.cells.size]!) ((Array.range<|len*m).map λi=>z.cells[i%z.cells.size]!).toList:=by
      exact xW
     have hok0:AS n ((au<|len*m).map λi=>LV.v<|z.cells[i%z.cells.size]!):=by
      exact aLM
     obtain ⟨zs',f1,f2,f3⟩:=bZ (β:=β) (Z:=Z) (w:=w) (n:=n) pl pv.toList _ cs _ hcs hp hr hk hz0 hok0;obtain ⟨k1,k2⟩:=tj ty0 len cs l0 _ hl f2
     have hcl:=aE7 hcs
     have hsz2:zs'.size=len*m:=by
      have:=RL.length f2
      grind
     refine ⟨zs',λw'=>?_,k1,A8,λw' b hw hc i d hd=>k2 Z w' b 0 (λ_ h=>h) hw hc i d hd⟩
     exact xD
    ·cases h
   ·cases h
  ·cases h
 ·cases h
def aez {t:TypeId}{len:Nat}{vs:List<|Nat×LV}{pv:Array<|Nat×Value}{lv:LV}{H':List AB}(hW:RW G w0 Z0 Z β H w) (h:(aO P H t len vs).all λq=>q=(lv,H')) (hp:pv.toList.map (·.1)=vs.map (·.1))
  (hargs:RL β Z w (vs.map (·.2))<|pv.toList.map (·.2)) (hoka:AS (M H)<|vs.map (·.2)):
  ∃w' v Z' β',(Instr.buildSlice t len pv).run P w=.ok v w'/\Below w.heap.size w w'/\(∀b,Z b->Z' b)/\(∀k,k<M H->β' k=β k)/\RW G w0 Z0 Z' β' H' w'/\R β' Z' w' lv v/\okV (M H') lv/\M H'=M H+1/\(β'<|M H).b=w.heap.size:=by
 unfold aO at h;split at h
 ·rename_i hcl
  obtain ⟨y,h1,h2⟩:=T.B2 h;obtain ⟨_,hg,h1⟩:=T.B2 h1;split at h2
  ·rename_i e ty l hu _
   obtain ⟨rfl,rfl⟩:=h2
   have hG:=T.BW (K':=λ_=>True) (λ_ _=>trivial) hg
   obtain ⟨c1,c2⟩:=Sm hcl
   have hP:=hW.pub<|reach H 64 (ownsL<|vs.map (·.2)) []
   have hH:=λk b hb=>(hW.blk k b hb).2
   have hr0:RL β (ZP Z β H λk=>k∈reach H 64 (ownsL<|vs.map (·.2)) []) w ((vs.map (·.2)).map<|C2 H 6) (pv.toList.map (·.2)):=
    T7 (S:=λk=>k∈reach H 64 (ownsL<|vs.map (·.2)) []) hargs hoka c1 (λx y hm hs hx hr=>MT hW c2 6 x y (Od hG x hm) hs hx hr)
   have hok0:AS 0 ((vs.map (·.2)).map<|C2 H 6):=by
    exact aKn
   have emap:(vs.map λq=>(q.1,C2 H 6 q.2)).map (·.2)=(vs.map (·.2)).map (C2 H 6):=AJ
   obtain ⟨cells,e1,e2,e3,e4⟩:=anV (β:=β) (Z:=ZP Z β H λk=>k∈reach H 64 (ownsL<|vs.map (·.2)) []) (w:=w) (n:=0) (pv:=pv) hu h1 Fv (by rw [emap];exact hr0) (by rw [emap];exact hok0)
   have hbw:Below w.heap.size w (w.alloc<|.cells cells e):=(Below.refl _ _).alloc (Av _) _
   have hblk:(w.alloc<|.cells cells e).heap[w.heap.size]? =ah (.cells cells e (0,0)):=by
    exact Ze
   obtain ⟨β',b1,b2,b3⟩:=(hP.same hbw).KM (ℓ:=⟨w.heap.size,0,ah len⟩) (nb:=⟨[],e,.vec ty l,X⟩) rfl ⟨ak,ak⟩
    (λ_=>⟨λhz=>by have:=hP.BY _ hz;simp only at this;omega,hW.below.size,λj bj hj lj e=>by have:=hP.lt hj lj;simp only at e;omega⟩) (λβ' g1 g2=>by
     simp only [BX,g2];refine ⟨cells,hblk,A0,A0,λj d' hd'=>?_⟩
     exact e4 _ w.heap.size (λb hz=>Dv hbw<|hP.BY b hz) (λj v hv=>by
      simpa using hv) j d' hd')
   simp only [Jy] at b1 b2 b3;exact ⟨_,_,_,β',e1 w,hbw,λ_ h=> .inl h,b1,b3,aMf,by simp [okV,Jy],by simp [Jy],VS⟩
  ·cases h2
 ·cases h
theorem af2 {t:TypeId}{len:Nat}{pl:List<|Nat×LV}{pv:Array<|Nat×Value}{lv:LV}{H':List AB}(hW:RW G w0 Z0 Z β H w) (h:(m8 P H t len pl).all λq=>q=(lv,H')) (hp:pv.toList.map (·.1)=pl.map (·.1)) (hr:RL β Z w (pl.map (·.2))<|pv.toList.map (·.2)) (hk:AS (M H)<|pl.map (·.2)):
  ∃w' v,(Instr.buildSlice t len pv).run P w=.ok v w'/\Below w.heap.size w w'/\∃β',(∀k,k<M H->β' k=β k)/\RW G w0 Z0 Z β' H' w'/\R β' Z w' lv v/\okV (M H') lv/\M H'=M H+1/\(β'<|M H).b=w.heap.size:=by
 unfold m8 at h;split at h
 ·rename_i e hu
  split at h
  ·rename_i m z hsz hz
   split at h
   ·rename_i hc
    split at h
    ·rename_i cs hcs
     obtain ⟨rfl,rfl⟩:=h
     have hz0:RL β Z w ((au<|len*m).map λi=>LV.v<|z.cells[i%z.cells.size]!) ((Array.range<|len*m).map λi=>z.cells[i%z.cells.size]!).toList:=by
      exact xW
     have hok0:AS (M H) ((au<|len*m).map λi=>LV.v<|z.cells[i%z.cells.size]!):=by
      have:=TS (M H)<|(au<|len*m).map λi=>z.cells[i%z.cells.size]!
      simpa [Gp,ZH] using this
     obtain ⟨zs',f1,f2,f3⟩:=bZ (β:=β) (Z:=Z) (w:=w) (n:=M H) pl pv.toList _ cs _ hcs hp hr hk hz0 hok0;obtain ⟨β',b1,b2,b3,b4⟩:=hW.alloc (t:=e) f2 f3
     have hbw:Below w.heap.size w (w.alloc<|.cells zs' e):=(Below.refl _ _).alloc (Av _) _
     refine ⟨w.alloc<|.cells zs' e,.slice (ah ⟨w.heap.size,0,aj⟩) len len,?_,hbw,β',b1,b3,?_,MA,AJ,b2⟩
     ·exact xD
     ·simp only [R,b2]
      grind
    ·cases h
   ·cases h
  ·cases h
 ·cases h
theorem T2 {o:Oper}{g:FuncId}{l:List LV}{lv:LV}{H':List AB}(h:(LK P Γ H o g l).all λq=>q=(lv,H')):∃fn S,P.funcs[g]? =ah fn/\¬fn.body=aj/\¬fn.name= "runtime.NumGoroutine"/\Γ g=ah S/\
  (if noOwnL l then (S l).bind λy=>(T.ok (y,H):T<|LV×List AB)
      else if LC P 8 o.type then ((Fy (EB H 6) l).bind λ_=>QS<|S<|l.map<|C2 H 6).bind λy=> .ok (y,H)
      else if KC H (reach H 64 (ownsL l) []) l then ((Fy (EB H 6) l).bind λ_=>S<|l.map<|C2 H 6).bind λy=> .ok (y,FR (reach H 64 (ownsL l) []) 0 H) else .no).all (λq=>q=(lv,H')):=by
 unfold LK at h;split at h
 ·rename_i fn hfn
  split at h
  ·rename_i hb
   split at h
   ·rename_i S hS
    grind
   ·cases h
  ·cases h
 ·cases h
def aDp {o:Oper}{lv:LV}(hΓ:∀g S,Γ g=ah S->Valid P G g S) (hW:RW G w0 Z0 Z β H w) (hF:RF ds β Z w (M H) F a) {g:FuncId}{vals:Array Value}(hrun:(execOp a.eval o).run P w=.ok (.enter g vals) w)
  {H':List AB} {l:List LV} (hargs:RL β Z w l vals.toList) (hoka:AS (M H) l) (h:(LK P Γ H o g l).all λq=>q=(lv,H')):
  DV P (Post ds G w0 Z0 F a β H w o lv H') ((execOp a.eval o).run P w):=by
 obtain ⟨fn,S,_,_,_,hS,h⟩:=T2 h;rw [hrun]
 have hval:=hΓ g S hS
 have hH:=λk b hb=>(hW.blk k b hb).2
 split at h
 ·rename_i hno
  obtain ⟨y,h1,h2⟩:=T.B2 h;simp only [T.all,Aw] at h2;obtain ⟨rfl,rfl⟩:=h2
  have hok0:=noOwnL_ok _ hno hoka
  have hr0:RL β0 Z w l (vals).toList:=RL.mono (n:=0) (λ_ hk=>absurd hk A0) (λ_ h=>h) (λ_ _=>rfl) _ _ hok0 hargs
  refine (hval _ _ w Z y hW.BY hW.CZ hok0 hr0 h1).mono λe w' ⟨hbw,v,he,hk,hr⟩=>⟨v,he,?_⟩
  refine ⟨_,β,hW.call hbw,hF.mono (Av _) (λ_ _=>rfl) (λ_ h=> .inl h) λb hz=>Dv hbw<|hW.BY b hz,?_,okV.mono (N3 _) _ hk,Av _,λ_ _=>rfl,λk h1 h2=>A0,N9 hbw⟩
  exact aLW
 ·have hok0:=aBr hoka (λx hx=>QA H hH 6 x hx)
  split at h
  ·obtain ⟨y,h1,h2⟩:=T.B2 h
   simp only [T.all,Aw] at h2;obtain ⟨rfl,rfl⟩:=h2;obtain ⟨_,hg,h1⟩:=T.B2 h1
   have hG:=T.BW (K':=λ_=>True) (λ_ _=>trivial) hg
   obtain ⟨h1,h2⟩:=aD1 h1
   have hr0:RL β0 (ZP Z β H λ_=>True) w (l.map<|C2 H 6) (vals).toList:=
    RL.mono (n:=0) (λ_ hk=>absurd hk A0) (λ_ h=>h) (λ_ _=>rfl) _ _ hok0 (T7 (S:=λ_=>True) hargs hoka (λ_ _=>trivial) λx y hm hs hx hr=>MT hW (λ_ _ _ _ _ _=>trivial) 6 x y (Od hG x hm) hs hx hr)
   have hzo:∀b,ZP Z β H (λ_=>True) b->b<w.heap.size:=λb hz=>by
    exact aLZ
   refine (hval _ _ w _ y hzo (hW.CZ.mono (λ_ h=> .inl h) λ_ _=>rfl) hok0 hr0 h1).mono λe w' ⟨hbw,v,he,hk,hr⟩=>⟨v,he,?_⟩
   refine ⟨Z,β,hW.same hbw,hF.mono (Av _) (λ_ _=>rfl) (λ_ h=>h) λb hz=>Dv hbw<|hW.BY b hz,?_,okV.mono (N3 _) _ hk,Av _,λ_ _=>rfl,λk h1 h2=>A0,N9 hbw⟩
   obtain ⟨x,hx⟩:=ZD.1 h2;rw [Cf hx hr];exact aKP hx
  ·split at h
   ·rename_i hcl
    obtain ⟨y,h1,h2⟩:=T.B2 h;simp only [T.all,Aw] at h2;obtain ⟨rfl,rfl⟩:=h2;obtain ⟨_,hg,h1⟩:=T.B2 h1
    have hG:=T.BW (K':=λ_=>True) (λ_ _=>trivial) hg
    obtain ⟨c1,c2⟩:=Sm hcl
    have hP:=hW.pub<|reach H 64 (ownsL l) []
    have hr0:RL β0 (ZP Z β H λk=>k∈reach H 64 (ownsL l) []) w (l.map<|C2 H 6) (vals).toList:=
     RL.mono (n:=0) (λ_ hk=>absurd hk A0) (λ_ h=>h) (λ_ _=>rfl) _ _ hok0 (T7 (S:=λk=>k∈reach H 64 (ownsL l) []) hargs hoka c1 λx y hm hs hx hr=>MT hW c2 6 x y (Od hG x hm) hs hx hr)
    refine (hval _ _ w _ y hP.BY hP.CZ hok0 hr0 h1).mono λe w' ⟨hbw,v,he,hk,hr⟩=>⟨v,he,?_⟩
    refine ⟨_,β,hP.call hbw,?_,?_,okV.mono (N3 _) _ hk,by rw [Jy];exact Av _,λ_ _=>rfl,λk h1 h2=>by rw [Jy] at h2;omega,N9 hbw⟩
    ·exact aLN
    ·exact aLW
   ·cases h
def aCW {f:Operand}{args:Array Operand}{ty:Array TypeId}{o:Oper}(ho:o.op=.call {callee:=.value f,args,argTypes:=ty}) {g:FuncId}{ys:Array Value}(hy:a.eval f=.func (.func g) #[] ys) {fn:Func}(hfn:P.funcs[g]? =ah fn) (hb:¬fn.body=aj) (hb3:¬fn.name= "runtime.NumGoroutine") (w:World):
  (execOp a.eval o).run P w=.ok (.enter g<|args.map a.eval++ys) w:=by
 unfold execOp;simp only [ho]
 simp [resolve,Deferred.ofValue,hy,invoke,callFunc,hfn,hb3,hb]
def aCn {f:Operand}{args:Array Operand}{ty:Array TypeId}{o:Oper}(ho:o.op=.call {callee:=.value f,args,argTypes:=ty}) {g:FuncId}{ys:Array Value}(hy:a.eval f=.func (.func g) ys #[]) {fn:Func}(hfn:P.funcs[g]? =ah fn) (hb:¬fn.body=aj) (hb3:¬fn.name= "runtime.NumGoroutine") (w:World):
  (execOp a.eval o).run P w=.ok (.enter g<|ys++args.map a.eval) w:=by
 unfold execOp;simp only [ho]
 simp [resolve,Deferred.ofValue,hy,invoke,callFunc,hfn,hb3,hb]
def qb (G:Az) (F:List LV) (f:Operand) (args:Array Operand) (g:FuncId) (l:List LV):Prop:=
 (∃cap,AL G F f=.fn g cap/\l=args.toList.map (λx=>norm<|AL G F x)++cap)\/(∃fs,AL G F f=.fb g fs/\l=fs++args.toList.map (λx=>norm<|AL G F x))\/(AL G F f=.v (.func (.func g) #[] #[])/\l=args.toList.map (λx=>norm<|AL G F x))
theorem aDC {f:Operand}{args:Array Operand}{ty:Array TypeId}{o:Oper}(ho:o.op=.call {callee:=.value f,args,argTypes:=ty}) (hW:RW G w0 Z0 Z β H w) (hF:RF ds β Z w H.length F a) {g:FuncId}{l:List LV}
  (hf:qb G F f args g l) {fn:Func} (hfn:P.funcs[g]? =ah fn) (hb:¬fn.body=aj) (hb3:¬fn.name= "runtime.NumGoroutine"):
  ∃vals:Array Value,(execOp a.eval o).run P w=.ok (.enter g vals) w/\RL β Z w l vals.toList/\AS H.length l:=by
 have hfr:=hF.eval hW.CZ f
 have ha:RL β Z w (args.toList.map λx=>norm<|AL G F x) (args.map a.eval).toList:=by
  exact aKj
 have hk:AS H.length (args.toList.map λx=>norm<|AL G F x):=by
  exact aKe
 rcases hf with ⟨cap,hf,rfl⟩ |⟨fs,hf,rfl⟩ |⟨hf,rfl⟩
 ·rw [hf] at hfr
  obtain ⟨⟨ys,hy,hyr⟩,hcap⟩:=hfr;exact ⟨_,aCW ho hy hfn hb hb3 w,by rw [k8];exact RL.app ha hyr,AS.append hk hcap⟩
 ·rw [hf] at hfr
  obtain ⟨⟨ys,hy,hyr⟩,hcap⟩:=hfr;exact ⟨_,aCn ho hy hfn hb hb3 w,by rw [k8];exact RL.app hyr ha,AS.append hcap hk⟩
 ·rw [hf] at hfr
  have hy:=hfr.1
  exact ⟨_,aCW ho hy hfn hb hb3 w,A8,hk⟩
end Go.Sx
end
