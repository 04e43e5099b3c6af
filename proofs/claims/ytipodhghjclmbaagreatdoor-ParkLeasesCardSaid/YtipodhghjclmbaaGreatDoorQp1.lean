/- Helpers for ParkLeases. Conditions: none. -/
import Derived.Test.YtipodhghjclmbaaGreatDoorRows
import Derived.WalkKit
import Derived.WalkSpells
import Derived.WalkLawsBesides
import Derived.Deep.QuietTactic
import Derived.BigQuiet
import Derived.Deep.RegionHeld3
import Derived.Deep.DrawnRows
import Derived.Deep.DeepCutAuto
import Derived.RangeFuncLeaves
import Derived.RangeFuncRecord
import Derived.OrdersIn
import Derived.LoopNIn
import Derived.Deep.Upon
import Derived.Laws.MakeOwn
import Derived.LoopN
import Derived.Test.YtipodhghjclmbaaGreatDoorProg
import Derived.Stop.Asserts
import Derived.Lib.IfaceEq
import Derived.RowKitTokens
import Derived.OpenShut
import Derived.ChangeShapes
import Derived.WideShapes
import Derived.Carry
import Derived.ChangeOld
import Derived.FnData
import Derived.Test.YtipodhghjclmbaaGreatDoorCards
import Derived.Test.YtipodhghjclmbaaGreatDoorTie
import Derived.ProofKit
import Derived.Deep.DeepHandedRow
import Derived.Lib.LaidTab
set_option linter.defProp false
set_option linter.unusedVariables false
set_option linter.unusedSimpArgs false
noncomputable section
open List renaming length→M,length→aa,replicate→aq,range→au
open Bool renaming true→U,true→ae,false→X,false→af
open Go.Value renaming int→Y,int→ag
open Option renaming some→ah,none→aj
open Go.IntKind renaming i64→J,i64→ai,u8→aw,u32→ax
open True renaming intro→ak
open Decidable renaming decide→an
open ByteArray renaming mk→av
open Go.Region renaming ready→ay,wanted→az
open Go.Instr renaming findNow→aA
namespace Go
abbrev Ac:=@decide_eq_true_eq
abbrev AY:=@Bool.and_eq_true
abbrev AD:=@if_pos
abbrev Ah:=@Option.some.injEq
abbrev AE:=@if_neg
abbrev Ce:=@List.length_replicate
abbrev BF:=@List.length_append
abbrev Cy:=@decide_eq_false_iff_not
abbrev Ax:=@Prod.mk.injEq
abbrev CN:=@beq_eq_false_iff_ne
abbrev CH:=@List.length_set
abbrev Ar:=@Nat.le_refl
abbrev BP:=@List.all_eq_true
abbrev Bk:=@List.length_cons
abbrev B7:=@List.mem_cons
abbrev Bp:=@List.length_nil
abbrev CM:=@Int.toNat_of_nonneg
abbrev By:=@Int.toNat_natCast
abbrev Be:=@List.mem_append
abbrev DQ:=@List.getElem?_eq_getElem
abbrev Dd:=@List.getD_eq_getElem?_getD
abbrev Ck:=@Bool.or_eq_true
abbrev Cx:=@of_decide_eq_true
abbrev Bt:=@List.not_mem_nil
abbrev GJ:=@Bool.or_eq_false_iff
abbrev CV:=@Go.run_underlying
abbrev Dv:=@List.getElem?_eq_some_iff
abbrev DR:=@List.take_of_length_le
abbrev Cl:=@List.append_assoc
abbrev DS:=@List.getElem?_map
abbrev El:=@List.drop_eq_nil_of_le
abbrev Cs:=@Bool.not_eq_true'
abbrev CP:=@List.drop_zero
abbrev B0:=@congrArg
abbrev GL:=@List.getElem?_append_right
abbrev HW:=@List.getElem?_append_left
abbrev HX:=@Array.getElem?_eq_some_iff
abbrev Cm:=@decide_eq_true
abbrev I9:=@Int.tdiv_eq_ediv_of_nonneg
abbrev Cz:=@beq_iff_eq
abbrev F7:=@List.length_drop
abbrev DE:=@List.mem_filter
abbrev Ct:=@Bool.false_or
abbrev F8:=@List.getElem?_drop
abbrev Dw:=@Option.some.inj
abbrev EN:=@List.take_length
abbrev EB:=@List.nil_append
abbrev MD:=@Int.mul_le_mul_of_nonneg_right
abbrev HY:=@List.mem_singleton
abbrev G0:=@List.length_map
abbrev H0:=@List.getElem_mem
abbrev IA:=@Bool.false_eq_true
abbrev I4:=@List.mem_iff_getElem
abbrev Bu:=@or_false
abbrev E9:=@List.map_cons
abbrev EA:=@Bool.true_and
abbrev Ej:=@List.mem_map
abbrev EM:=@Nat.zero_add
abbrev I5:=@Bool.not_eq_false'
abbrev Bm:=@if_true
abbrev I6:=@Bool.eq_false_iff
abbrev De:=@Int.le_refl
abbrev Ek:=@bne_iff_ne
abbrev GK:=@List.append_nil
abbrev I7:=@List.getElem?_set
abbrev JO:=@List.map_congr_left
abbrev MA:=@List.length_eq_zero_iff
abbrev MB:=@Go.World.putObj_heap_other
abbrev Jw:=@of_decide_eq_false
abbrev HU:=@List.cons.injEq
abbrev Ia:=@Bool.eq_iff_iff
abbrev I8:=@decide_eq_false
abbrev MC:=@List.length_take
abbrev Gy:=@List.map_map
abbrev HV:=@Nat.add_assoc
abbrev JQ:=@Option.map_some
abbrev Kz:=@List.getElem?_take
abbrev OQ:=@List.mem_or_eq_of_mem_set
abbrev wj:=@Array.toArray_toList
abbrev ZB:=@Function.comp_def
abbrev Pk:=@Int.fdiv_eq_ediv_of_nonneg
abbrev Pl:=@Array.getElem?_eq_getElem
abbrev Pm:=@Int.not_le
abbrev N7:=@Array.toList_map
abbrev M9:=@ge_iff_le
abbrev IZ:=@List.mem_range
abbrev N8:=@Nat.mul_le_mul_right
abbrev Fz:=@Nat.add_mul
abbrev Ib:=@Int.mul_nonneg
abbrev HZ:=@Nat.le_trans
abbrev Jx:=@List.map_append
abbrev Jy:=@List.foldl_cons
abbrev L0:=@List.cons_append
abbrev Pr:=@Int.eq_ofNat_of_zero_le
abbrev Ic:=@List.all_cons
abbrev OS:=@List.mem_of_getElem?
abbrev V7:=@Int.mul_le_mul_of_nonneg_left
abbrev Em:=@Go.mem_ready
abbrev SZ:=@List.drop_eq_getElem_cons
abbrev OT:=@List.length_pos_iff
abbrev Pt:=@List.mem_of_mem_erase
abbrev ZM:=@List.take_succ_eq_append_getElem
abbrev F9:=@if_false
abbrev FA:=@true_and
abbrev Pu:=@List.mem_of_mem_drop
abbrev ME:=@List.nodup_cons
abbrev OU:=@Option.bind_some
abbrev Pv:=@Bool.not_eq_false
abbrev Sa:=@List.mem_cons_of_mem
abbrev OV:=@beq_self_eq_true
abbrev OW:=@List.any_eq_true
abbrev OX:=@List.filter_cons
abbrev L1:=@List.map_nil
abbrev Sb:=@Bool.or_eq_true_iff
abbrev ZF:=@Option.isNone_iff_eq_none
abbrev ZG:=@List.getElem?_toArray
abbrev SU:=@List.mem_filterMap
abbrev SV:=@List.mem_replicate
abbrev ZH:=@Option.isSome_iff_exists
abbrev V3:=@List.erase_cons_tail
abbrev V4:=@List.mem_of_mem_take
abbrev ZI:=@List.getElem?_replicate
abbrev SW:=@List.length_range
abbrev jt:=@Array.getD_eq_getD_getElem?
abbrev V5:=@Int.ediv_le_self
abbrev Pq:=@Bool.false_and
abbrev V6:=@Int.natCast_nonneg
abbrev ZJ:=@List.contains_iff_mem
abbrev ZK:=@List.getElem?_eq_none
abbrev wu:=@Bool.and_eq_false_iff
abbrev ju:=@List.isEmpty_eq_false_iff
abbrev jw:=@List.pairwise_iff_getElem
abbrev jx:=@Decidable.byContradiction
abbrev jy:=@List.getLastD_eq_getLast?
abbrev SX:=@List.range_succ
abbrev SY:=@Int.ediv_nonneg
abbrev N9:=@Nat.zero_le
abbrev jz:=@Go.Result.andThen_ok
abbrev ZL:=@List.getElem?_set_ne
abbrev OR:=@Int.le_trans
abbrev Po:=@Int.sub_zero
abbrev wo:=@List.replicate_append_replicate
abbrev ZC:=@List.replicate_succ
abbrev wq:=@List.eq_nil_iff_forall_not_mem
abbrev jr:=@List.getElem?_cons_succ
abbrev SS:=@Bool.and_false
abbrev Pp:=@Nat.lt_or_ge
abbrev ZD:=@Nat.lt_of_lt_of_le
abbrev ZE:=@List.filter_append
abbrev kD:=@List.set_append_right
abbrev ZS:=@Decidable.not_not
abbrev xK:=@Array.getElem?_append_left
abbrev VA:=@Bool.and_assoc
abbrev xL:=@Int.tmod_eq_emod_of_nonneg
abbrev kE:=@List.replicate_succ'
abbrev ZT:=@List.isEmpty_iff
abbrev aml:=@Array.mem_append
abbrev ZU:=@List.ext_getElem
abbrev ZV:=@Nat.lt_succ_self
abbrev Sc:=@Bool.or_true
abbrev xM:=@Array.mapM_eq_mapM_toList
abbrev kF:=@Array.getElem?_push
abbrev kG:=@Array.toList_append
abbrev aKU:=@List.getElem?_take_of_lt
abbrev ZW:=@Go.Oper.apart_spec
abbrev kH:=@List.pairwise_cons
abbrev kJ:=@List.length_modify
abbrev kK:=@List.getElem_range
abbrev xN:=@Classical.axiomOfChoice
abbrev Sd:=@Nat.one_mul
abbrev xO:=@Nat.add_sub_cancel_left
abbrev VB:=@Go.callsIn_wide
abbrev VC:=@Nat.ne_of_lt
abbrev xP:=@Array.getElem?_eq_none
abbrev kL:=@Go.Sem.run_bind
abbrev x8:=@List.Perm.append_right
abbrev k9:=@List.flatMap_cons
abbrev x9:=@List.singleton_append
abbrev xA:=@List.length_filter_le
abbrev xB:=@Go.run_typeAssert_lacksB
abbrev xC:=@Int.mul_tdiv_add_tmod
abbrev kA:=@Option.getD_some
abbrev kB:=@List.nodup_range
abbrev ZO:=@List.any_cons
abbrev OY:=@and_true
abbrev aKR:=@List.eq_nil_of_length_eq_zero
abbrev V8:=@List.map_id
abbrev aKS:=@List.drop_append_of_le_length
abbrev kC:=@List.foldr_cons
abbrev aKT:=@List.replicate_eq_append_iff
abbrev xD:=@Array.length_toList
abbrev xE:=@List.getElem?_range
abbrev xF:=@Nat.add_comm
abbrev ZQ:=@Nat.add_zero
abbrev xG:=@Go.Sem.run_pure
abbrev xH:=@Int.not_lt
abbrev V9:=@Nat.not_lt
abbrev OZ:=@Ne.symm
abbrev ZR:=@Go.getD_set_ne
abbrev xI:=@Go.run_storeCells_at
abbrev xJ:=@List.nodup_append
abbrev wv:=@List.filter_congr
abbrev wy:=@List.Pairwise.map
abbrev wz:=@List.reverse_perm
abbrev ZN:=@Int.one_mul
abbrev k6:=@Bool.and_true
abbrev amk:=@List.mem_toArray
abbrev x6:=@List.getElem_map
abbrev x7:=@Int.ediv_le_ediv
abbrev k7:=@Nat.le_of_eq
abbrev k8:=@Nat.zero_mul
abbrev kT:=@Go.execOp_congr
abbrev kU:=@List.any_nil
abbrev kV:=@Nat.sub_self
abbrev xW:=@Array.size_push
abbrev kW:=@Int.add_mul
abbrev Sh:=@eq_comm
variable {p:Prop}
def Zd(h:p:=by
 have c1:s.i<s.n:=AX
 rw [AJ (x:=s.i+1)];exact ⟨⟨AZ,AZ,h2,h3,hg,(by first|exact l1|(simp only [CH];exact l1)),l2,(by first|exact l3|(simp only [CH];exact l3)),(by first|exact l4|(simp only [CH];exact l4)),(by first|exact l5|(simp only [CH];exact l5))⟩,by simp only [bc];omega⟩):=h
def Ze(h:p:=by
 intro s hI;refine ⟨λc1=>⟨?_,?_,?_,ak⟩,λc1=>⟨A9,ak⟩⟩
 all_goals ((obtain ⟨h0,h1,h2,h3,h4⟩:=hI;(try simp only [Ac] at c1);first|omega|(refine ⟨A0,?_,?_⟩<;>simp only [Bk,Bp]<;>omega) |(simp only [BF,Bk,Bp];omega) |exact ⟨rfl,AI⟩ |exact ⟨rfl,rfl⟩))):=h
def aKi(h:p:=by
 have c1:s.k<s.m:=AX
 have c2:=QO hI c2
 have hp:s.levels.getD (gi s.l s.k).toNat 0=s.level-1/\s.level<=FP s.B2 (gi s.l s.k) (gi s.most<|gi s.l s.k):=by
  refine ⟨c2,?_⟩
  have h6:=hI.2.2.1
  simp only [Cy] at c3;rw [<-h6] at c3;unfold FP;omega
 have hE:=W8 hI c1 c2
 rcases bw _ hE with ⟨q1,q2⟩ |⟨q1,q2,q3⟩
 ·rw [q1] at c4
  cases c4
 ·rw [q2] at c5
  cases c5):=h
def L2(h:p:=by
 by_cases hji:(j:Int)<s.i
 ·exact h4 j hji
 ·have:(j:Int)=s.i:=A8
  rw [this];exact hg):=h
def L3(h:p:=by
 rintro s ⟨h0,h1,h2,h3⟩
 exact ⟨A0,A0,h2,h3,λj hj=>A0⟩):=h
def xX(h:p:=by
 refine ⟨rfl,?_⟩;refine ad3 (by rw [K0];exact h4) λj j0 j1=>?_
 rw [K0] at j1;rw [Sq j0 j1,h5 j j0 A0,AD (show j<s.i by omega)]):=h
def xY(h:p:=by
 refine ⟨hW.mask d1 d2 d3,λb hb=>?_⟩
 rcases hb with hb|⟨k,bk,hk1,hk2,hk3,rfl⟩
 ·exact d1.block b (hW.Bb b hb)<|hW.nM hb
 ·have hkt:k∉tr:=by simpa using hk3
  rw [aBj] at hk1;cases hH:H2[k]? with
  |none=>simp [hH] at hk1
  |some b0=>
   simp only [hH,JQ,Ah,EM] at hk1;rw [AE<|by simpa using hkt] at hk1
   subst hk1;exact d1.block _ (hW.lt hH hk2)<|hW.ad6 hH hk2 hkt):=h
def Sj(h:p:=by
 intro s hI;refine ⟨λc1=>⟨?_,λ_=>trivial,λ_=>trivial⟩,λ_=>trivial⟩
 ·(obtain ⟨h0,h1,h2,h3,h4⟩:=hI;simp at c1;omega)):=h
def kX(h:p:=by
 have hG':(G5 (ED H d) l).all (λ_=>True):=aNl
 clear hG
 simp only [Bx,R,okV,owns] at*;obtain ⟨ys,h1,h2⟩:=h;exact ⟨ys,h1,TC h2 hk hS λx y hm hx hk' hr=>Ma hW clo d x y (Oi hG' _ hm) hx hk' hr⟩):=h
def Pw(h:p:=by
 have c:=Ek.1 c
 show Ki _=_
 rw [(mg (by rw [s1];exact c)).1,(mg (by rw [s1];exact c)).2,s1]
 rfl):=h
def kY(h:p:=by
 simp only [Cz,CN,ne_eq,Ck,GJ,Ac,Cy,M9,Pm] at*;refine fin _ _ ?_ ?_<;>(clear fin w0 w3a w3b w4a w4b;omega)):=h
def aKj(h:p:=by
 have hrun:(execOp a.eval o).run P w=.ok .skip w':=Jz
 rw [hrun,<-h2];refine ⟨Z,β,e2,?_,?_,ak,A0,λ_ _=>rfl,λk k1 k2=>A0,by simp only [Ox,Ea,ho];exact e6⟩
 ·rw [e3];exact hF.mono (Ar _) (λ_ _=>rfl) (λ_ h=>h) e4
 ·simp only [R]):=h
def Sk(h:p:=by
 rintro s ⟨h0,h2,h3,h4,h5,h6⟩
 exact ⟨A0,h2,h3,h4,λj j0 j1=>A8,h6⟩):=h
def Zf(h:p:=by exact .inl ⟨rfl,λj hj=>h4 j A0⟩):=h
def xZ(h:p:=by
 intro s hI;refine ⟨λc1=>⟨?_,?_,?_,?_,ak⟩,λc1=>⟨A9,ak⟩⟩
 all_goals ((obtain ⟨⟨h0,h1⟩,h2,h3,h4,h5,h6⟩:=hI;(try simp only [Ac] at c1);first|omega|exact ⟨rfl,AI⟩ |(omega)))):=h
def kZ(h:p:=by
 by_cases e:j=s.i
 ·subst e
  rw [AD rfl,AD (show s.i<s.i+1 by omega)]
  rfl
 ·rw [AE e,h5 j j0 j1]
  by_cases q:j<s.i
  ·omega
  ·omega):=h
def xa(h:p:=by
 have e1:=λw=>run_sizeOf hsz w
 have e2:=λw=>mr hz w
 have n1:¬(len*m>2^24):=A0
 have n2:¬(len*m=0):=A0
 simp only [Instr.buildSlice,kL,CV hu,jz,e1,AE n1,AE n2,e2,xG,f1,newRow];rfl):=h
def aKk(h:p:=by
 have hrun:(execOp a.eval o).run P w=.ok (.value<|.map<|ah w.heap.size) (w.alloc<|.map #[] 0):=by simp [execOp,ho,Instr.makeMap]
 rw [hrun,<-h1,<-h2];refine ⟨Z,β',b3,hF.mono AI b1 (λ_ h=>h) λb hz=>Dx b4<|hW.Bb b hz,?_,?_,AI,b1,λk k1 k2=>?_,NH b4⟩
 ·simp only [R,b2]
 ·simp [okV]
 ·have:k=M H:=by simp at k2;omega
  rw [this,b2];exact .inl<|Ar _):=h
def ka(h:p:=by
 simp only [Cz,CN,ne_eq,Ck,GJ,Ac,Cy,M9,Pm] at*;refine fin _ _ ?_ ?_<;>(clear fin w1a w1b w1c w3a w3b w4a w4b;omega)):=h
def aKl(h:p:=by
 simp only [Cz,CN,ne_eq,Ck,GJ,Ac,Cy,M9,Pm] at*;refine fin _ _ ?_ ?_<;>(clear fin w0 w1a w1b w1c w4a w4b;omega)):=h
def aKb(h:p:=by
 simp only [Cz,CN,ne_eq,Ck,GJ,Ac,Cy,M9,Pm] at*;refine fin _ _ ?_ ?_<;>(clear fin w0 w1a w1b w1c w3a w3b;omega)):=h
def NA(h:p:=by obtain ⟨h1,h2⟩:=same h;exact gen h1 h2):=h
def VD(h:p:=by
 simp only [renV,R] at*;rw [(h.at<|ho k Ie).1];exact hr):=h
def Se(h:p:=by exact ⟨False,.junk,G3,λH K=>by simp [T.all]⟩):=h
def ZX(h:p:=by
 split at h
 ·simp only [T.all,Ax] at h
  rw [<-h.2];exact EvL.app _ _
 ·cases h):=h
def kO(h:p:=by
 simp only [renV,R,owns,okV] at*;obtain ⟨ys,h1,h2⟩:=hr;exact ⟨ys,h1,ren_RL h l _ ho hok h2⟩):=h
def Sf(h:p:=by
 have c1:s.n<=s.i:=A8
 exact ⟨rfl,A0⟩):=h
def ZY(h:p:=by exact val h2 (v:=z) Jz e2 e3):=h
def ZZ(h:p:=by
 rintro s ⟨h0,h1,h2,h3⟩
 exact ⟨A0,A0,h1,h2,A0⟩):=h
def kP(h:p:=by
 simp only [R,okV] at*;obtain ⟨ys,h1,h2⟩:=h;exact ⟨ys,h1,RL.mono hβ hZ hw l _ hk h2⟩):=h
def aKc(h:p:=by
 split at h
 ·simp only [owns,HY] at hk
  split at h
  ·rename_i hb
   split at h
   ·grind
   ·cases h
  ·cases h
 ·simp [owns] at hk
 ·simp only [owns,HY] at hk
  subst hk;split at h
  ·rename_i hb;exact ⟨⟨_,hb,hr.1⟩,.inr ⟨_,_,_,rfl⟩⟩
  ·cases h
 ·cases h):=h
def aKd(h:p:=by
 unfold Te
 (rw [AJ,h5] at c2;unfold koV;revert c2;generalize inB (OH s.l s.i).2.1 _ _=a;generalize inB (OH s.l s.i).2.2.1 _ _=b;generalize inB (OH s.l s.i).2.2.2 _ _=c;generalize List.contains (α:=Int) _ _=d;cases a<;>cases b<;>cases c<;>cases d<;>simp)):=h
def xU(h:p:=by
 split at h
 ·split at h
  ·rename_i hg
   rw [AD hg];rw [T.all_bind] at h|-;exact T.BY (λq hq=>hh _ _ hq) h
  ·cases h
 ·cases h):=h
def Za(h:p:=by
 rename_i ho;rcases h with h|h
 ·simp [ES,ho] at h
 ·simp [IJ,ho] at h):=h
def Zb(h:p:=by
 rename_i ho;rcases h with h|h
 ·simp [My,ho] at h
 ·simp [IJ,ho] at h):=h
def kQ(h:p:=by
 refine ⟨c2,?_⟩
 have h6:=hI.2.2.1
 simp only [Cy] at c3;rw [<-h6] at c3;unfold FP;omega):=h
def aKe(h:p:=by
 have hh':w'.heap[r]? =ah (.map es clock):=aNj
 have hget:(getObj r).run P w'=.ok (.map es clock) w':=lB
 have hz0:=λw=>mr hz w
 simp [Instr.lookup,CV hu,hy,hget,mh hku,Instr.findKey,CV hku,hzq,q1,hz0]):=h
def kR(h:p:=by
 simp only [R,owns,okV] at*;obtain ⟨ys,h1,h2⟩:=h;exact ⟨ys,h1,RL.KY l _ hj hk h2⟩):=h
def aKf(h:p:=by
 rw [hrun,<-h1,<-h2];refine ⟨Z,β',b3,hF.mono AI b1 (λ_ h=>h) b4,?_,?_,AI,b1,λk k1 k2=>?_,NH<|(Below.refl _ _).alloc (Ar _) _⟩
 ·simp only [R,b2]
 ·simp [okV]
 ·have:k=M H:=by simp at k2;omega
  rw [this,b2];exact .inl<|Ar _):=h
def aKg(h:p:=by
 have:=e1 w' λb hb=>(hD w' hw').2 b (by
  rcases hb with hb|⟨k,e4,e5⟩
  ·exact .inl hb
  ·obtain ⟨bk,l1,l2⟩:=hlv k e4
   refine .inr ⟨k,bk,l1,l2,?_,e5⟩;unfold qU at hap;simp only [ho,e4] at hap
   simpa using hap)
 simp [execOp,ho,this]):=h
def kS(h:p:=by rw [FV<|hl x FB]):=h
def Zc(h:p:=by
 rintro s ⟨h0,h1,h2,h3⟩
 exact ⟨A0,A0,h1,h2,h3⟩):=h
def aKh(h:p:=by
 rw [show (s.i+1).toNat=s.i.toNat+1 by omega,ET,<-h5]
 have e1:s.o.getD s.i.toNat (Ty.dflt Ad)=Ag s.o (s.i.toNat:Int):=by
  rw [Dd,DQ A0];rw [show Ag s.o (s.i.toNat:Int)=s.o[s.i.toNat]' A0 from QR A0];rfl
 rw [e1];rfl):=h
def NB(h:p:=by rename_i ho;simp [isSp,ho] at hsp):=h
def Sg(h:p:=by
 have c1:s.n<=s.i:=AX
 exact Zf):=h
def xV(h:p:=by
 have:=ads (P:=P) (G:=G) (Γ:=λ_=>aj) (F:=F) (y:=y) h
 unfold pux at this;unfold hpx;simp only [ho] at this|-;exact this):=h
def aKV(h:p:=by
 obtain ⟨_,⟨h2,h3,h4,h5⟩,_⟩:=hI
 have c2:((s.levels.getD (gi s.l s.k).toNat 0) !=(AA<|s.level-1))=true:=c2
 rw [AJ (x:=s.level-1)] at c2
 have c2:¬s.levels.getD (gi s.l s.k).toNat 0=s.level-1:=EC
 exact c2 h.1):=h
def xR(h:p:=by
 have:=Uf (β:=β) (Z:=Z) (w:=w)<|(au<|len*m).map λi=>z.cells[i%z.cells.size]!
 simpa [Gy,ZB] using this):=h
def kM(h:p:=by
 simp only [R] at*;obtain ⟨ys,h1,h2⟩:=hh;exact ⟨ys,h1,RL.shut h o' l _ h2⟩):=h
def aKW(h:p:=by
 simp only [R];refine ⟨_,rfl,?_⟩;simp only [N7];refine RL.CQ AI λi x hx=>?_
 rw [DS] at hx|-;cases hq:first.toList[i]? with
 |none=>simp [hq] at hx
 |some q=>simp [hq] at hx;subst hx;exact ⟨a.eval q,AI,(ev q).1⟩):=h
def aKX(h:p:=by
 have hh':w'.heap[r]? =ah (.map es clock):=aNj
 have hget:(getObj r).run P w'=.ok (.map es clock) w':=lB
 simp [Instr.lookup,CV hu,hy,hget,mh hku,Instr.findKey,CV hku,hzq,q1]):=h
def aKY(h:p:=by
 simp only [R];refine ⟨_,rfl,?_⟩;simp only [N7];refine RL.CQ AI λi x hx=>?_
 rw [DS] at hx|-;cases hq:cap.toList[i]? with
 |none=>simp [hq] at hx
 |some q=>simp [hq] at hx;subst hx;exact ⟨a.eval q,AI,(ev q).1⟩):=h
def aKZ(h:p:=by
 rw [AD (show FQ (Bc s.p.ca s.i) (Cj s.p.mi s.i) (AG s.p.gs s.i).2.2.1 (BX (AG s.p.gs s.i)<|BJ s.p.st s.i)>BX (AG s.p.gs s.i) (BJ s.p.st s.i) from Cx c5)];rw [show CU s.p.gs s.p.st s.i 6 2 0=_ from AD<|eq_of_beq c6];rfl):=h
def aKa(h:p:=by
 rw [AD (show FQ (Bc s.p.ca s.i) (Cj s.p.mi s.i) (AG s.p.gs s.i).2.2.1 (BX (AG s.p.gs s.i)<|BJ s.p.st s.i)>BX (AG s.p.gs s.i) (BJ s.p.st s.i) from Cx c5)];rw [show CU s.p.gs s.p.st s.i 6 2 0=_ from AE<|CN.1 c6];rfl):=h
def Oa(h:p:=by exact JU us F H Z β F1 H1 hW hF h):=h
def xS(h:p:=by
 simp only [Bn] at hx;cases j with
 |zero=>simp at hx;subst hx;exact ⟨_,h,JR⟩
 |succ j=>simp at hx):=h
def aLC(h:p:=by
 rename_i f l hl;simp only [T.all,Ax] at h;rw [hl] at hx
 have hx1:=hx.1
 simp only [R] at hx1;obtain ⟨ys,e1,_⟩:=hx1;refine val h.2.symm (v:=a.eval x) Jz ?_ ?_<;>rw [<-h.1]
 ·exact hx.1
 ·exact hx.2):=h
def aLD(h:p:=by
 rename_i f l hl;simp only [T.all,Ax] at h;rw [hl] at hx
 have hx1:=hx.1
 simp only [R] at hx1;obtain ⟨ys,e1,_⟩:=hx1;refine val (v:=a.eval x) (λw' _=>Jz) ?_ ?_<;>rw [<-h.1]
 ·exact hx.1
 ·exact hx.2):=h
def aLE(h:p:=by
 obtain ⟨a,cap,h1,h2,h3⟩:=h;refine ⟨a,cap,by rw [<-h1];exact hb 0 Zs,h2,λhn=>?_⟩
 obtain ⟨b',o',h4,h5,h6⟩:=h3 hn;exact ⟨b',o',h4,hZ _ h5,λi d hd=>RD.mono hZ hw e d b' _ h5<|h6 i d hd⟩):=h
def xg(h:p:=by
 obtain ⟨_,⟨cs,f2,f3⟩,_⟩:=pL hW hb hcl;refine ⟨cs,f2,?_⟩
 have:=RL.length f3
 simpa using this):=h
def aLF(h:p:=by
 rename_i t m i x ho;obtain ⟨H1,h1,h2⟩:=T.B4 h;simp only [T.all,Ax] at h2;obtain ⟨h2,h3⟩:=h2;subst h3;obtain ⟨w',e1,e2,e3,e4,e6⟩:=adp hW h1 (ev m).1 (ev i).1 (ev x).1 (ev x).2;exact aKj):=h
def xh(h:p:=by
 show M0 _ _ _=M0 _ _ _
 rw [Ia];unfold M0;simp only [Cz,CN,ne_eq] at*;simp only [AY,Ck,Ac];omega):=h
def aLG(h:p:=by
 rw [hrun];refine ⟨Z,β',e4,hF.mono A0 e3 (λ_ h=>h) λb hz=>Dx e2<|hW.Bb b hz,e5,e6,A0,e3,λk k1 k2=>?_,NH e2⟩
 have:k=M H:=A0
 rw [this,e8];exact .inl<|Ar _):=h
def aLH(h:p:=by
 refine RL.CQ AI λi x hx=>?_
 rw [N7,DS];cases hq:args.toList[i]? with
 |none=>simp [hq] at hx
 |some q=>simp [hq] at hx;subst hx;exact ⟨a.eval q,AI,Oy (hF.eval hW.CW q).1⟩):=h
def aLI(h:p:=by
 simp only [T.all,Ax] at h;rw [hl] at hx
 have hx1:=hx.1
 simp only [R] at hx1;refine val h.2.symm (v:=a.eval x) (by simp [execOp,ho,hx1]) ?_ ?_<;>rw [<-h.1]
 ·exact hx.1
 ·exact hx.2):=h
def Px(h:p:=by
 simp [BR,BS,D4,hv,EW.ev,h]
 grind):=h
def aLJ(h:p:=by
 simp only [T.all,Ax] at h;rw [hl] at hx
 have hx1:=hx.1
 simp only [R] at hx1;refine val (v:=a.eval x) (λw' _=>by simp [execOp,ho,hx1]) ?_ ?_<;>rw [<-h.1]
 ·exact hx.1
 ·exact hx.2):=h
def xi(h:p:=by
 rw [hg] at hq;simp only [IA,F9] at hq;rw [hq];exact .inr ⟨rfl,rfl,rfl,rfl,rfl,rfl,rfl⟩):=h
def aLK(h:p:=by
 intro s hI;refine ⟨λc1=>⟨?_,λc2=>⟨A9,ak⟩,λc2=>⟨A9,ak⟩⟩,λc1=>⟨A9,ak⟩⟩
 ·(obtain ⟨h0,h1,h2,h3⟩:=hI;simp only [Ac] at c1;omega)):=h
def aLL(h:p:=by
 refine AS.CQ λi x hx=>?_
 rw [DS] at hx;cases hq:(vs.map (·.2))[i]? with
 |none=>simp [hq] at hx
 |some q=>simp [hq] at hx;subst hx;exact QF H hH 6 _<|AS.get i q hoka hq):=h
def aLM(h:p:=by
 rw [JW h0 A0 j0,afR h0 A0 j0]
 by_cases e:j=s.i
 ·subst e
  rw [AD rfl,AD rfl,hx',hy'];exact ⟨rfl,rfl⟩
 ·rw [AE e,AE e]
  exact hA j j0 A0):=h
def aLN(h:p:=by
 rw [AE (show ¬FQ (Bc s.p.ca s.i) (Cj s.p.mi s.i) (AG s.p.gs s.i).2.2.1 (BX (AG s.p.gs s.i)<|BJ s.p.st s.i)>BX (AG s.p.gs s.i) (BJ s.p.st s.i) from Jw c5)];rfl):=h
def kf(h:p:=by
 rintro s ⟨h0,h1,h2⟩
 exact ⟨A0,A0,h1,h2⟩):=h
def aLO(h:p:=by
 have c1:s.i<s.k:=AX
 refine .inr ⟨rfl,rfl,s.i.toNat,AZ,?_⟩
 have hg:Wc s s.i=false:=aN4
 exact hg):=h
def aLP(h:p:=by (have hx:=QQ s hI AX;obtain ⟨w1,w2⟩:=fa hI<|QO hI c2;have hh:=IB.1<|hI.2.2.2.1.has _ hx.1;have hb:=hI.2.1;(first|rw [w2] |rw [w1]);omega)):=h
def Zi(h:p:=by
 rw [q3,hn,hl,El A0,hE.1] at hk
 grind):=h
def aLQ(h:p:=by
 simp only [okV];refine AS.CQ λi x hx=>?_
 rw [DS] at hx;cases hq:first.toList[i]? with
 |none=>simp [hq] at hx
 |some q=>simp [hq] at hx;subst hx;exact (ev q).2):=h
def aLR(h:p:=by
 refine ⟨hc.rw,?_,hc.near,hc.len,hc.old,hc.new,hc.Jo⟩;exact hF1'.mono (Ar _) (λ_ _=>rfl) (λ_ h=>h) λb hz=>hc.near.block b (hW.Bb b hz)<|hW.nM hz):=h
def aLS(h:p:=by
 simp only [okV];refine AS.CQ λi x hx=>?_
 rw [DS] at hx;cases hq:cap.toList[i]? with
 |none=>simp [hq] at hx
 |some q=>simp [hq] at hx;subst hx;exact (ev q).2):=h
def aLT(h:p:=by
 split at h
 ·split at h
  ·split at h
   ·simp only at h
    split at h
    ·rename_i hb;exact ⟨_,hb,ak⟩
    ·cases h
   ·cases h
  ·cases h
 ·cases h):=h
def kg(h:p:=by exact val (v:=z) (λw' _=>Jz) e2 e3):=h
def aLU(h:p:=by
 have c1:s.t11<3:=AX
 rw [AJ (x:=s.t11+1)];exact ⟨⟨ht,⟨AZ,AZ⟩,h1,h2⟩,by simp only [dg];omega⟩):=h
def aKw(h:p:=by
 generalize BA (p.tk+1) (gi p.dr j)=x at*;generalize BA p.tk (gi p.dr j)=y at*;generalize BA (T+4) (gi p.dr j)=z at*
 clear this s1
 split<;>split<;>omega):=h
def aKx(h:p:=by
 rename_i x ho;simp only [T.all,Ax] at h;refine val h.2.symm (v:=a.eval x) (by simp [execOp,ho]) ?_ ?_<;>rw [<-h.1]
 ·exact (ev x).1
 ·exact (ev x).2):=h
def aKy(h:p:=by
 intro s hI;refine ⟨λc1=>⟨?_,λ_=>trivial,λ_=>trivial⟩,λ_=>trivial⟩
 ·(obtain ⟨⟨h0,h1⟩,h2,h3,h4⟩:=hI;simp only [Ac] at c1;omega)):=h
def aKz(h:p:=by
 rename_i x ho;simp only [T.all,Ax] at h;refine val (v:=a.eval x) (λw' _=>by simp [execOp,ho]) ?_ ?_<;>rw [<-h.1]
 ·exact (ev x).1
 ·exact (ev x).2):=h
def Zg(h:p:=by
 show (w.heap.push _)[w.heap.size]? =_
 simp):=h
def aL0(h:p:=by
 intro s hI;refine ⟨λc1=>⟨?_,?_,λ_=>trivial,λ_=>trivial⟩,λ_=>trivial⟩
 all_goals ((obtain ⟨h0,h1,h2,h3,h4⟩:=hI;simp at c1;omega))):=h
def Dk(h:p:=by simp only [R]):=h
def aL1(h:p:=by
 refine AS.CQ λi x hx=>?_
 cases hq:args.toList[i]? with
 |none=>simp [hq] at hx
 |some q=>simp [hq] at hx;subst hx;exact TB (hF.eval hW.CW q).2):=h
def xb(h:p:=by
 simp only [Ty.n] at hj
 have:j=0:=A0
 subst this;exact ⟨_,h,rfl⟩):=h
def aL2(h:p:=by
 unfold QY;split
 ·rename_i op t x z _ ho
  simp only [e x FB,e z FB]
 ·rfl):=h
def xc(h:p:=by
 unfold M0;simp only [Cz,CN,ne_eq] at*;simp only [wu,GJ,Cy];omega):=h
def aL3(h:p:=by
 refine .inr ⟨q1,q2,?_⟩;rw [I6];intro hx
 have:=(QJ (d:=(0:Int))).2 hx j A0
 exact Bool.noConfusion<|this.symm.trans q4):=h
def aL4(h:p:=by rw [adu<|FV<|hl q.2 aMu]):=h
def Zh(h:p:=by
 have c1:s.k<=s.i:=A8
 exact xX):=h
def aL5(h:p:=by
 rw [e8.block k A0 λhm=>?_]
 ·exact hc.near.block k hk hn
 ·rcases hc.touch hst hm with h|h
  ·omega
  ·exact hn h):=h
def kc(h:p:=by (have hx:=QQ s hI AX;omega)):=h
def ke(h:p:=by
 rintro s ⟨h0,h1⟩
 exact ⟨A0,h1⟩):=h
def xd(h:p:=by
 obtain ⟨y,zs,rfl,rfl,_⟩:=h;simp only [RD];exact hc 0 _ rfl):=h
def aL6(h:p:=by
 rename_i t m i x ho;unfold Aw at h;simp only [ho] at h;obtain ⟨H1,h1,h2⟩:=T.B4 h;obtain ⟨_,rfl⟩:=h2;exact afS h1):=h
def xe(h:p:=by
 rw [q1,q2,QP j q3 q4];exact ⟨λ_=>rfl,λc=>FU⟩):=h
def aL7(h:p:=by
 have:CX (r::rs) (x-i)=CX rs (x-(i+1)):=by
  unfold CX;rw [show (x-i).toNat=(x-(i+1)).toNat+1 by omega]
  simp
 grind):=h
def aL8(h:p:=by
 split
 ·rename_i cs _
  exact ⟨True,.own k 0,⟨cs,t,.cl,X⟩,λH K=>aO0⟩
 ·exact Se):=h
def aL9(h:p:=by
 go_enter func220,Tryz.ntmps220
 go_wp2
 refine wp_loop_rounds 1 ?_;rw [rounds_succ]
 go_wp2
 go_ret
 exact ⟨rfl,rfl⟩):=h
def xf(h:p:=by simp only [Ah] at hx;subst hx;simp only [R] at h1;rw [h1]):=h
def aLA(h:p:=by
 have c1:s.i<s.n:=A8
 rw [AJ (x:=s.i+1)];exact ⟨⟨A8,A8,h2,h3⟩,by simp only [um];omega⟩):=h
def aLB(h:p:=by
 simp only [Cz,CN,ne_eq,Ck,GJ,Ac,Cy,M9,Pm] at*
 (first|decide|(clear fin w0 w1a w1b w1c w4a w4b;omega))):=h
def aKm(h:p:=by
 split
 ·exact ⟨go _<|bX h hdd _,pass _<|bX h hdd _⟩
 ·exact ⟨pass _<|bX h hdd _,go _<|bX h hdd _⟩):=h
def aKn(h:p:=by
 rename_i x ho;unfold Aw at hs;simp only [ho,T.all,Ax] at hs;exact other _ hs.1.symm hs.2.symm λj hj=>Sr hj):=h
def aKo(h:p:=by
 split at hx
 ·obtain ⟨rfl,_,hx⟩:=hx;exact ⟨_,_,hx⟩
 ·obtain ⟨_,ad,hx,_⟩:=hx;exact ⟨_,_,hx⟩):=h
def aKp(h:p:=by
 by_cases hji:(j:Int)<s.i
 ·exact h6 j hji
 ·have:(j:Int)=s.i:=lO
  rw [this];exact hg):=h
def aKq(h:p:=by
 split at hx
 ·rename_i hk;subst hk;simp only [Ah] at hx;subst hx;simp only [R] at h1;rw [h1]
 ·cases hx):=h
def aKr(h:p:=by exact aCb s _ hI AX aO5 rfl rfl rfl rfl rfl rfl rfl rfl rfl rfl):=h
def aKs(h:p:=by exact aCa s _ hI AX aO5 rfl rfl rfl rfl rfl rfl rfl rfl rfl rfl):=h
def aKt(h:p:=by
 split
 ·rename_i zs hz
  simp only [R]
  have:=aP2 hz h
  rw [<-this]
 ·simp only [R];exact ⟨ys,rfl,aEB h⟩):=h
def aKu(h:p:=by
 refine (afT _ A6).2.trans ?_;rw [h7]
 show Et _ 0 _ ((M s.p.AM.tg:Int)-0).toNat=_
 rw [Po,By,amn];rfl):=h
def aKv(h:p:=by
 refine AH (λc5=>?_) λc5=>?_
 ·refine AH (λc6=>?_) (λc6=>?_)
  ·exact Zd
  ·exact Zd
 ·exact Zd):=h
def NC(h:p:=by exact gen<|same h):=h
def aLu(h:p:=by
 rename_i x ho;refine ⟨True,AL G F x,aj,λH K=>?_⟩
 unfold Hx Aw;rw [h1,h2]
 simp [ho,T.all,putAt]):=h
def xu(h:p:=by
 rw [AE e,h5 j j0 j1]
 by_cases q:j<s.i
 ·omega
 ·omega):=h
def xv(h:p:=by
 rintro s ⟨h0,h2⟩
 exact ⟨A0,A0,h2⟩):=h
def aLv(h:p:=by
 rintro s ⟨h0,h1,h2,h3,h4⟩
 exact ⟨A0,A0,h2,h3,h4,G1,λj hj=>A0⟩):=h
def aLw(h:p:=by
 have:=TZ n<|(au<|len*m).map λi=>z.cells[i%z.cells.size]!
 simpa [Gy,ZB] using this):=h
def aLx(h:p:=by
 rw [K5];exact hF.mono (Ar _) (λ_ _=>rfl) (λ_ h=> .inl<|.inl h) λb hz=>Dx hbw<|hW.Bb b hz):=h
def xw(h:p:=by
 simp only [AY,Cz] at hcalm
 simpa using hcalm.1.1.2):=h
def aLy(h:p:=by
 unfold JF;split
 ·rename_i hc
  split
  ·rw [JW h.1 h.2 hj]
   split
   ·grind
   ·omega
  ·omega
 ·omega):=h
def aLz(h:p:=by exact ⟨⟨AZ,AZ,h2,h3,h4,h5,h6⟩,by simp only [df];omega⟩):=h
def aM0(h:p:=by
 simp only [Bx];exact R.mono (n:=M H) (λ_ _=>rfl) (λ_ h=> .inl h) (λ_ _=>rfl) _ _ hk h):=h
def aM1(h:p:=by
 obtain ⟨_,_,h6,_⟩:=hI;simp only [Ac] at c3;rw [<-h6] at c3
 have:=h.2
 unfold FP at this;omega):=h
def kr(h:p:=by exact .inr<|.inr<|.inr<|.inr rfl):=h
def VE(h:p:=by exact ⟨rfl,A0⟩):=h
def aM2(h:p:=by
 rintro s ⟨ht,h0,h1,h2,h3⟩
 exact ⟨ht,⟨A0,A0⟩,h1,A8,A8⟩):=h
def ku(h:p:=by
 unfold hpx;simp only [ho];exact kS):=h
def aM3(h:p:=by
 rw [I9 A0,show (M fl:Int) / 2=((M fl / 2:Nat):Int) by omega]
 exact AJ):=h
def aM4(h:p:=by
 have h1:(0:Int)<=(x:Int)/\(x:Int)<=(y:Int):=A0
 simp [Instr.sliceBound,asIntOf,h1]):=h
def aM5(h:p:=by
 unfold HC;rw [AD,AD]
 ·exact ⟨rfl,rfl⟩
 ·rw [AY,BV,BV];omega
 ·rw [AY,BV,BV];omega):=h
def Sl(h:p:=by
 simp only [ho];rw [e]):=h
def aM6(h:p:=by
 rename_i x ho;unfold Aw;simp only [ho];rw [FV<|hl x FB];rfl):=h
def aM7(h:p:=by exact R.mono (n:=0) (λ_ hk=>absurd hk A0) (λ_ h=>h) (λ_ _=>rfl) _ _ hk hr):=h
def aM8(h:p:=by
 subst h;exact EvL.set hb ⟨λhc=>ye,λ_ _ _=>trivial,λh=>h⟩):=h
def xx(h:p:=by
 have c1:s.m<=s.i:=AX
 exact Zf):=h
def aM9(h:p:=by
 have c1:s.n<=s.i:=AX
 exact .inl ⟨rfl,λj hj=>h6 j A0⟩):=h
def aMA(h:p:=by
 rcases hz with hz|⟨k,bk,_,h2,h3,rfl⟩
 ·exact hW.Bb b hz
 ·exact hW.lt h2 h3):=h
def aLc(h:p:=by
 simp only [canX,R] at h|-;obtain ⟨ys,h1,h2⟩:=h;exact ⟨ys,h1,canL_R h2⟩):=h
def aLd(h:p:=by
 rw [hj.Ui,hj.cl]
 have:M5 512 fl (Az x)=false:=ND
 rw [this];rfl):=h
def xm(h:p:=by
 rcases B7.1 hi with e|e
 ·grind
 ·exact e):=h
def Py(h:p:=by simpa using this):=h
def xn(h:p:=by exact ⟨Z2,β2,c1,c2,by rw [c3];simp⟩):=h
def aLe(h:p:=by
 rw [K5];exact hF.mono (Ar _) (λ_ _=>rfl) (λ_ h=> .inl h) λ_ _=>rfl):=h
def aLf(h:p:=by exact main _ es clock _ _ hr g1 g2 g3 hl b2.2 h<|.inr ⟨k,rfl,rfl⟩):=h
def aLg(h:p:=by
 simp only [R,Value.func.injEq,Fn.yield.injEq] at this;exact this.1.symm):=h
def aLh(h:p:=by
 split
 ·omega
 ·have:=oF (x:=a-mi) (st:=st) A0 A0
  omega):=h
def aLi(h:p:=by exact EvL.set hb ⟨λhc=>ye,λ_ _ h=>h,λh=>h⟩):=h
def aLj(h:p:=by
 unfold GA chW at this;simp only [AY,BV] at this;exact IB.2 A0):=h
def xo(h:p:=by exact ⟨A0,A0,h2,h3,h4⟩):=h
def aLk(h:p:=by
 rw [AD q2,HW D2,GL D2]
 congr 1
 simp
 omega):=h
def aLl(h:p:=by
 have:=IB.1 h
 have:=oF (x:=ma-mi) (st:=st) A0 A0
 omega):=h
def xp(h:p:=by
 intro _ _ _ _ _ _ _ _ _ h;exact h.elim):=h
def aLm(h:p:=by
 obtain ⟨h1,h2⟩:=nN b fs (k+1) i h;refine ⟨A0,?_⟩
 grind):=h
def xr(h:p:=by rw [<-h];exact Vz<|by simpa using f2):=h
def ko(h:p:=by
 split at h
 ·grind
 ·cases h):=h
def aLn(h:p:=by
 split at h
 ·rename_i hkk
  simp only [R,okV] at hr hk
  grind
 ·cases h):=h
def aLo(h:p:=by
 rcases q2 with e2|e2<;>rw [e2] at hy
 ·exact hy
 ·exact aE9.subset hy):=h
def aLp(h:p:=by
 rw [AD q1];simp only [ZG,Cl];rw [HW D2,aKU q1]
 simp):=h
def aLq(h:p:=by
 rintro s ⟨h0,h1,h2⟩
 exact ⟨A0,yk,h2⟩):=h
def aLr(h:p:=by
 obtain ⟨j,⟨h0,h1⟩,rfl⟩:=aD8 ha
 have:=dh<|h.ch h0 h1
 omega):=h
def xt(h:p:=by
 have e1:=e1 w λ_ _=>rfl
 exact ZY):=h
def aLs(h:p:=by
 rw [hv] at s2;rw [ad1 hg hd s2,AE AI];exact passOk F hF h):=h
def aLt(h:p:=by
 have:fs.toList[M fpre]? =ah f:=by rw [e1];simp
 exact Py):=h
def aLV(h:p:=by (obtain ⟨h0,h1,h2,h3,h4⟩:=hI;simp only [Ac] at c1;omega)):=h
def aLW(h:p:=by
 rintro s ⟨h0,h2,h3,h4,h5⟩
 exact ⟨A0,h2,h3,h4,h5⟩):=h
def aLX(h:p:=by
 have:es=[]:=G1
 subst this;exact .inr ⟨rfl,h.symm⟩):=h
def aLY(h:p:=by exact ext q g n.toNat A0 hle A0 hr hk h.symm):=h
def aLZ(h:p:=by
 obtain ⟨x,h1,h2⟩:=T.B4 h;simp only [T.all,Ax] at h2
 grind):=h
def xj(h:p:=by rw [hl];simpa only [okV] using hk):=h
def aLa(h:p:=by exact val (v:=z) (λw' _=>aNX) f2 f3):=h
def Zj(h:p:=by
 split
 ·grind
 ·grind):=h
def aLb(h:p:=by
 have:=h.2
 unfold JD at this;split at this
 ·assumption
 ·omega):=h
def xk(h:p:=by
 split at h
 ·cases h;rfl
 ·cases h):=h
def aMH(h:p:=by
 rintro s ⟨h0,h2,h3⟩
 exact ⟨A0,A0,h2,h3⟩):=h
def aMI(h:p:=by
 have:es=[]:=G1
 subst this;exact .inr ⟨rfl,rfl⟩):=h
def xy(h:p:=by rename_i hc;exact absurd hc hcap):=h
def aMJ(h:p:=by
 have hG':=hG
 simp only [GX,ED,hb,T.all] at hG';exact hG'.1):=h
def aMK(h:p:=by
 simp only [T.all,Ax] at h;rw [<-h.2.2];exact EvL.app _ _):=h
def aML(h:p:=by exact ⟨qB hI AX<|QO hI c2,rfl,rfl⟩):=h
def aMM(h:p:=by
 unfold hpx;simp only [ho];rw [nJ (λcs b e=>A8) h]):=h
def aMN(h:p:=by
 rintro s ⟨h0,h2,h3,h4⟩
 exact ⟨A0,h2,h3,h4⟩):=h
def aMO(h:p:=by
 unfold az;simp only [yielded,hd,OU,hv]
 grind):=h
def aMP(h:p:=by rename_i x ho;rw [e x FB]):=h
def aMQ(h:p:=by rw [AE hs];exact ⟨λh=>h.elim,λh=>absurd h.1 hs⟩):=h
def aMR(h:p:=by
 unfold PK.isC at hh;simp only [ne_eq,Pv,BV] at hh;omega):=h
def aMS(h:p:=by exact val h2 (v:=z) aNX f2 f3):=h
def aMT(h:p:=by
 refine AH (λc6=>?_) λc6=>?_
 ·exact aKi
 ·exact aKi):=h
def aMU(h:p:=by
 rw [Kz] at hv;split at hv
 ·exact hc j v hv
 ·cases hv):=h
def xz(h:p:=by exact .inr ⟨i',.inl h1,h2⟩):=h
def aMV(h:p:=by
 simp [IntKind.wrap,IntKind.bits,IntKind.signed]
 omega):=h
def aMW(h:p:=by
 rcases mem_set hm with hm|rfl
 ·exact h.mi m hm
 ·simp):=h
def aMX(h:p:=by
 refine ⟨λc7=>?_,λc7=>?_⟩
 ·exact kY
 ·exact kY):=h
def aMY(h:p:=by
 refine ⟨λc7=>?_,λc7=>?_⟩
 ·exact aKl
 ·exact aKl):=h
def aMZ(h:p:=by
 refine ⟨λc8=>?_,λc8=>?_⟩
 ·exact aKb
 ·exact aKb):=h
def aMa(h:p:=by exact T.BY (λz hz=>by simp only [T.all];rw [hz]) h):=h
def y6(h:p:=by
 obtain ⟨h1,h2⟩:=adq h
 grind):=h
def aMb(h:p:=by
 refine AH (λc6=>?_) λc6=>?_
 ·cases c5
 ·cases c5):=h
def aMc(h:p:=by
 rw [BF]
 show s.n+1-((M s.Co+1:Nat):Int)=_
 omega):=h
def y7(h:p:=by
 rw [bad he Aa,he];rfl):=h
def A0(h:p:=by omega):=h
def A8(h:p:=by grind):=h
def DT(h:p:=by first|omega|exact ⟨rfl,rfl⟩ |exact ⟨rfl,by simp⟩ |exact ⟨by simp,by simp⟩ |(rw [Ce];omega)):=h
def AX(h:p:=by simpa using c1):=h
def AZ(h:p:=by simp only;omega):=h
def AU(h:p:=by kernel_rfl):=h
def AI(h:p:=by simp):=h
def aMC(h:p:=by unfold Ti;(obtain ⟨e0,e1,e2,e3,e4⟩:=h3;have hb:=e3 (gi s.l s.i).toNat;have c2:=c2;rw [AJ (x:=s.sums.getD (gi s.l s.i).toNat (Ty.dflt A7)+s.more) (by show _<=s.sums.getD (gi s.l s.i).toNat 0+s.more;omega) (by show s.sums.getD (gi s.l s.i).toNat 0+s.more<=_;omega)] at c2;unfold KZ;first|(have c3:(!(an<|s.sums.getD (gi s.l s.i).toNat 0+s.more<=(CX s.BH<|gi s.l s.i).1))=true:=c2;simpa using c3) |(have c3:(!(an<|s.sums.getD (gi s.l s.i).toNat 0+s.more<=(CX s.BH<|gi s.l s.i).1))=false:=c2;simpa using c3))):=h
def MF(h:p:=by first|omega|exact ⟨rfl,rfl⟩ |exact ⟨rfl,by simp⟩ |(rw [Ce];omega)):=h
def Aa(h:p:=by decide):=h
def kv(h:p:=by first|omega|exact ⟨rfl,rfl⟩ |exact ⟨rfl,by rw [By];first|exact l1.symm|exact l2.symm|exact l3.symm⟩ |exact ⟨rfl,by simp⟩ |exact ⟨by simp,by simp⟩ |(rw [Ce];omega)):=h
def Ao(h:p:=by cases h):=h
def FB(h:p:=by rw [ho];simp [Op.operands]):=h
def aMD(h:p:=by unfold OG;(simp only [show an (s.i<1)=X from I8<|by omega,Ct];(simp only [chB,chA];revert c2;generalize Jn s.text s.i=b;intro c2;by_cases h1:b>=97<;>by_cases h2:b<=122<;>by_cases h3:b>=48<;>by_cases h4:b<=57<;>simp_all))):=h
def VG(h:p:=by simp [execOp,ho,resolve,invoke,builtin,Builtin.len_,ha,ht,CV hu,e1,goInt]):=h
def VH(h:p:=by simp only [renV,okV];have:=(aBo 0<|ho k<|by simp [owns]).2.2;omega):=h
def aME(h:p:=by unfold Tb;(first|(have c2:(!(inB (OO s.l s.i).2 0<|AA<|(M s.BN:Int)-1))=false:=c2;simpa using c2) |(have c2:(!(inB (OO s.l s.i).2 0<|AA<|(M s.BN:Int)-1))=true:=c2;simpa using c2))):=h
def Zo(h:p:=by rw [ho];simp only [Op.operands,Call.operands,aml];exact .inr<|by grind):=h
def aMF(h:p:=by unfold Td;(first|(have c2:(!(GA (M s.BB) (M s.Bf)<|AG s.l s.i))=false:=c2;simpa using c2) |(have c2:(!(GA (M s.BB) (M s.Bf)<|AG s.l s.i))=true:=c2;simpa using c2))):=h
def EC(h:p:=by simpa using c2):=h
def VJ(h:p:=by simp only [RD] at*;rw [<-h];exact hb 0<|by simp [Ty.n]):=h
def D2(h:p:=by simp;omega):=h
def Ie(h:p:=by simp [owns]):=h
def Zp(h:p:=by simp only [Bx,okV] at*;exact aBw h λx hx=>QF H hH d x hx):=h
def Zq(h:p:=by unfold Fc;rw [hw D (hW.Ci D hD).1];exact (hW.Ci D hD).2):=h
def aMG(h:p:=by unfold Tf;(first|(have c2:(!(Hu s.i<|Ag s.l s.i))=false:=c2;simpa using c2) |(have c2:(!(Hu s.i<|Ag s.l s.i))=true:=c2;simpa using c2))):=h
def Sm(h:p:=by have:=hW.lt hj lj;simp only at e;omega):=h
def aMB(h:p:=by unfold Th;(first|(have c2:(!(Hk<|gi s.l s.i))=false:=c2;simpa using c2) |(have c2:(!(Hk<|gi s.l s.i))=true:=c2;simpa using c2))):=h
def Zk(h:p:=by simp only [renV,okV,owns] at*;exact ren_okL l ho hk):=h
def VF(h:p:=by simp [aA,Instr.sameNow,hk.1,hb]):=h
def Jz(h:p:=by simp [execOp,ho,e1]):=h
def Zl(h:p:=by simp only [okV,noOwn] at*;exact noOwnL_ok l h hk):=h
def Zm(h:p:=by simp only [owns,okV] at*;exact okL_owns l hk j h):=h
def Zn(h:p:=by simp only [owns,okV] at*;exact okL_lower l hk h):=h
def Oc(h:p:=by rw [w7] at c3;exact Cx c3):=h
def azz(h:p:=by rw [By];first|exact l1.symm|exact l2.symm|exact l3.symm):=h
def lD(h:p:=by simp [execOp,ho,e1,e2,eqGuard,binOp,Op.shift,xH.2 h0]):=h
def Pz(h:p:=by rw [<-wj (xs:=args),hargs]):=h
def Q0(h:p:=by unfold PK.isC;simpa using c):=h
def Zv(h:p:=by simp only [R,okV] at*;rw [hβ k hk];exact h):=h
def aMs(h:p:=by show _<=s.sums.getD (gi s.l s.i).toNat 0+s.more;omega):=h
def aMt(h:p:=by show s.sums.getD (gi s.l s.i).toNat 0+s.more<=_;omega):=h
def lE(h:p:=by simp only [R] at*;rw [hj k<|by simp [owns]];exact h):=h
def Sn(h:p:=by simp only [aBi,aBh,aBg];exact h3):=h
def Zw(h:p:=by have:=hW.Bb _ hz;simp only at this;omega):=h
def VR(h:p:=by simp [owns] at h;subst h;exact hk):=h
def lF(h:p:=by simp [execOp,ho,e1,e2,eqGuard,binOp,Op.intDiv,h0]):=h
def Ig(h:p:=by simpa using c):=h
def aMu(h:p:=by rw [ho];simp only [Op.operands];first|exact Ej.2 ⟨q,hq,rfl⟩ |(simp;exact ⟨q.1,by grind⟩)):=h
def JR(h:p:=by simp only [R]):=h
def yC(h:p:=by rw [ho];simp only [Op.operands,amk,Ej];exact ⟨q,hq,rfl⟩):=h
def Zx(h:p:=by unfold H9;simp only [MC,F7];omega):=h
def aMv(h:p:=by simp only [R,b2];exact ⟨by omega,⟨w.heap.size,0,aj⟩,by simp,λ_=>by simp⟩):=h
def G1(h:p:=by simp_all):=h
def lG(h:p:=by simp only [okV] at*;exact AS.mono h l hk):=h
def Q1(h:p:=by simp only [aBq];omega):=h
def MH(h:p:=by rw [he];decide):=h
def aMw(h:p:=by unfold Tg;(obtain ⟨_,g1,g2⟩:=h3;rw [AJ (x:=s.n-1)] at c2;simpa using c2)):=h
def VS(h:p:=by simp only [okV] at*;omega):=h
def FU(h:p:=by cases c):=h
def ND(h:p:=by simpa using c3):=h
def Zy(h:p:=by show M p.gs<=1000;omega):=h
def VM(h:p:=by simpa only [R] using hh):=h
def l9(h:p:=by simp only [BF,G0,Bk,Bp];omega):=h
def Zr(h:p:=by rw [<-e1,<-e2];exact hc.rf):=h
def aMj(h:p:=by unfold Ka;cases e1:BC l<;>cases e2:inB t 0 1100000<;>simp_all):=h
def Zs(h:p:=by simp [Ty.n]):=h
def lA(h:p:=by unfold Aw;simp only [ho,hm,ht]):=h
def VN(h:p:=by rw [AY,BV,BV];omega):=h
def y9(h:p:=by show (M s.p.AM.gs:Int)<=1000;omega):=h
def aMk(h:p:=by simp [execOp,ho,e1,e2,Instr.index,asIntOf,CV hu,h0,Jn,hg]):=h
def Zt(h:p:=by simp [az,hg]):=h
def VO(h:p:=by simp [World.setRow]):=h
def aMl(h:p:=by have:=hb j;(try simp only []);split<;>(try split)<;>omega):=h
def yA(h:p:=by simp only [RD] at*;rw [Q5 hb];exact h):=h
def MG(h:p:=by simp [okV]):=h
def aMm(h:p:=by show ((M (MO<|L8 d t).out:Nat):Int)<20;omega):=h
def aMn(h:p:=by simp only [Hw,T.lv,Keeps];exact ⟨h.1,h.2,ak⟩):=h
def aMo(h:p:=by unfold Kj;rw [wa];simp only [DZ];rw [CM h0,<-hb];rfl):=h
def Zu(h:p:=by rw [<-e2];exact hc.rw):=h
def yB(h:p:=by simp only [RD] at*;exact ml h o' hh):=h
def lB(h:p:=by simp [getObj,Sem.run,hh']):=h
def aMp(h:p:=by unfold leB;rw [wa];simp only [Eg];rw [CM h0,<-hb]):=h
def L4(h:p:=by cases hb):=h
def VQ(h:p:=by simp [owns] at h):=h
def aMq(h:p:=by have:=hf 0;simp at this;simp [List.getD,<-this]):=h
def aMr(h:p:=by simp [IntKind.wrap,IntKind.bits,IntKind.signed]):=h
def lC(h:p:=by simp only [R];rw [hv,e]):=h
def aMd(h:p:=by simp only [R] at*;rw [h,hj k<|by simp [owns]]):=h
def kz(h:p:=by simpa only [DC] using h):=h
def l8(h:p:=by simpa only [G9] using h):=h
def aMe(h:p:=by unfold Uj;(simp only [inB];simp at c2|-;omega)):=h
def aMf(h:p:=by have:=hf<|j+1;simpa [HV,xF 1 j] using this):=h
def aMg(h:p:=by have:=ho<|j+1;simpa [HV,xF 1 j] using this):=h
def aMh(h:p:=by unfold AB.owns;rw [hbk];exact Be.2<|.inr hj):=h
def y8(h:p:=by rw [oE<|by omega];exact H0 _):=h
def aMi(h:p:=by simp [Array.getD,show 0<1+vals.size by omega]):=h
def VL(h:p:=by simp at c;omega):=h
def aND(h:p:=by unfold Tj;(simp only [Ac,Cy] at c2|-;omega)):=h
def lL(h:p:=by simp only [Ty.n];omega):=h
def lM(h:p:=by simpa [NV,ho] using ht):=h
def yL(h:p:=by simp only [Act.eval];exact hv):=h
def aNE(h:p:=by unfold Fm;rw [AD hp,AE (by rw [q3];simp)]):=h
def So(h:p:=by simp [BD,hb]):=h
def lO(h:p:=by simp only at hj;omega):=h
def yM(h:p:=by show ((0:Nat):Int)<=0;decide):=h
def aNF(h:p:=by rw [I9<|by omega];exact V5 _<|by omega):=h
def yN(h:p:=by simpa using BP.1 htr0 k hk):=h
def yO(h:p:=by rw [DS,DQ<|by omega];rfl):=h
def aNG(h:p:=by rw [ho];simp [Op.operands,Call.operands]):=h
def NF(h:p:=by cases hk):=h
def aNH(h:p:=by simp only [HD];rw [AE λhh=>by omega]):=h
def aNI(h:p:=by unfold lpC;rw [By];exact nR<|by omega):=h
def aNJ(h:p:=by unfold leC;rw [By];exact nR<|by omega):=h
def aNK(h:p:=by simp [execOp,ho,Instr.makeFunc,hfirst]):=h
def aNL(h:p:=by simp only [R] at hr|-;rw [QG];exact hr):=h
def aNM(h:p:=by unfold Fm;rw [AD hp,AD q2,<-r1,<-w1]):=h
def aG(h:p:=by simp [Gj,h1,h2]):=h
def aNN(h:p:=by rw [cell_of_block hc];simpa using h1):=h
def aNO(h:p:=by simp [execOp,ho,e1,Instr.extract,e6]):=h
def aNP(h:p:=by simp [execOp,ho,Instr.makeFunc,hcap]):=h
def yP(h:p:=by simp [az,hgd]):=h
def aNQ(h:p:=by rw [aEA];exact λx hx=>h x<|by grind):=h
def VU(h:p:=by rw [<-e];rfl):=h
def lH(h:p:=by have:=Cx c1;omega):=h
def lI(h:p:=by rw [h5];exact Oj _):=h
def aN0(h:p:=by show (M s.p.tg:Int)<=1000;omega):=h
def aN1(h:p:=by unfold IG at hz;simpa [hi] using hz):=h
def Zz(h:p:=by simpa using he):=h
def aN2(h:p:=by have:=RL.length hr;simpa using this):=h
def aB(h:p:=by rw [c1];decide):=h
def aC(h:p:=by rw [c2];decide):=h
def yJ(h:p:=by rw [<-hops];exact hcalm):=h
def lJ(h:p:=by simp [noOwn] at h):=h
def aN3(h:p:=by unfold Ta;(try simp only []);omega):=h
def aN4(h:p:=by unfold Wc;(unfold raC CO;simp_all)):=h
def aN5(h:p:=by rcases hc with e|e<;>rw [e]<;>simp):=h
def aN6(h:p:=by simp [stepG,stepG.exec,Frame.atR]):=h
def aD(h:p:=by rw [GZ];omega):=h
def aE(h:p:=by rw [h4];omega):=h
def aF(h:p:=by rw [c];decide):=h
def Q2(h:p:=by cases hx):=h
def lK(h:p:=by simp at c3;omega):=h
def aN7(h:p:=by show (M gs:Int)<=1000;omega):=h
def aN8(h:p:=by show (M cs:Int)<=1000;omega):=h
def aN9(h:p:=by unfold As;(repeat' split)<;>simp):=h
def aNA(h:p:=by show (M ds:Int)<=5000;omega):=h
def aNB(h:p:=by rw [AE<|by decide] at hu;omega):=h
def yK(h:p:=by unfold BS;rw [e1];rfl):=h
def aNC(h:p:=by show [(se,_)]=[(se,fl)];rw [z2]):=h
def aMx(h:p:=by simpa only [GX,ED,hb] using hG):=h
def VT(h:p:=by simp [ZB]):=h
def aMy(h:p:=by have:=okV_owns _ r3 k hk;omega):=h
def aMz(h:p:=by rw [IF<|by omega];exact H0 _):=h
def yD(h:p:=by simp only [oo];omega):=h
def yE(h:p:=by rw [hu] at c;cases c):=h
def yF(h:p:=by simpa [Vg] using ht):=h
def yG(h:p:=by simp [List.getD,hj]):=h
def yH(h:p:=by rw [Vp.2 hv];decide):=h
def yI(h:p:=by rw [hv.dr];exact j1):=h
def yd(h:p:=by rw [K4];exact Ar _):=h
def lP(h:p:=by simpa using hl):=h
def lQ(h:p:=by simpa using hj):=h
def Q3(h:p:=by cases e):=h
def aNl(h:p:=by simpa only [GX,ED] using hG):=h
def aNm(h:p:=by simp [setObj,Sem.run,w',g1]):=h
def ye(h:p:=by simp [AB.Dl] at hc):=h
def VY(h:p:=by simp [ho]):=h
def aNn(h:p:=by rw [hls];exact (HX.1 ho).1):=h
def aNo(h:p:=by intro x hx;simp at hx;omega):=h
def aNp(h:p:=by rw [CM h0,JE,Sq h0 hm,hx']):=h
def yf(h:p:=by rw [he];assumption):=h
def aNq(h:p:=by rw [Ek.2 h] at c1;cases c1):=h
def aNr(h:p:=by rw [hsz];exact hW.Bb b' hz):=h
def aNs(h:p:=by simpa using (hW.gh p hp).2):=h
def aNt(h:p:=by simp [execOp,ho,e1,asBool]):=h
def aNu(h:p:=by simp only [R] at*;exact h3):=h
def aNv(h:p:=by unfold D1.a FQ;rw [AD hB]):=h
def aNw(h:p:=by unfold PK.AM;rw [AD h.up]):=h
def yg(h:p:=by cases x<;>exact h):=h
def yh(h:p:=by simp only [BZ,g2]):=h
def aI(h:p:=by simp at hl):=h
def aNx(h:p:=by simpa only [okV] using hk):=h
def aNy(h:p:=by simp only [D8,T.all] at h):=h
def aNz(h:p:=by simp only [CH];exact h10):=h
def yi(h:p:=by simp only [Bx,R]):=h
def aNY(h:p:=by simp [getObj,Sem.run,g1]):=h
def yS(h:p:=by rw [h5];exact e1):=h
def VX(h:p:=by cases hd):=h
def yT(h:p:=by rw [TA,TA];omega):=h
def yU(h:p:=by simp at c4;omega):=h
def aNZ(h:p:=by rw [h2,BF,ad4,Ce];omega):=h
def yV(h:p:=by rw [hL];exact aCG):=h
def aNa(h:p:=by simp only [CH];exact h9):=h
def aNb(h:p:=by rw [hb];exact Sz _ _ _ _):=h
def aNc(h:p:=by rw [hB];exact Sz _ _ _ _):=h
def aNd(h:p:=by simpa using (ho 0).symm):=h
def aNe(h:p:=by simpa only [RL] using h):=h
def aNf(h:p:=by have:=(q2 hm).2.1;omega):=h
def aNg(h:p:=by rw [AD hh] at he;omega):=h
def aNh(h:p:=by rw [AY,BV,BV,e6];omega):=h
def aNi(h:p:=by unfold Gk;rw [AD hc.1]):=h
def aNj(h:p:=by rw [hw' r hzr];exact hh):=h
def aH(h:p:=by simp [RL]):=h
def yW(h:p:=by simpa using hwt):=h
def yX(h:p:=by simp [c0,T.all]):=h
def yY(h:p:=by simp [c1,T.all]):=h
def yZ(h:p:=by simp [c2,T.all]):=h
def ya(h:p:=by simp [c3,T.all]):=h
def yb(h:p:=by simp [c4,T.all]):=h
def yc(h:p:=by simp [c5,T.all]):=h
def aNk(h:p:=by rw [<-wj (xs:=ty),ht]):=h
def aNR(h:p:=by simpa [Oq,ho] using hm):=h
def aNS(h:p:=by simpa [ownsL] using hj):=h
def aNT(h:p:=by rw [hg];simpa using c5):=h
def aNU(h:p:=by rw [hb];exact cG _ _ _):=h
def aNV(h:p:=by rw [hB];exact cG _ _ _):=h
def aNW(h:p:=by simp only;rw [h.1];rfl):=h
def aNX(h:p:=by simp [execOp,ho,e1,f1]):=h
def yQ(h:p:=by simpa using hx):=h
def VW(h:p:=by rw [b2]):=h
def yR(h:p:=by simp [OD] at h):=h
def aO0(h:p:=by simp only [T.all,FA]):=h
def yj(h:p:=by simpa using hk):=h
def aO1(h:p:=by simp [Gx] at h1;omega):=h
def yk(h:p:=by rw [h0,h1];rfl):=h
def yl(h:p:=by simpa using c4):=h
def ym(h:p:=by rw [F7];omega):=h
def aO2(h:p:=by rw [By];exact o5 rfl):=h
def aO3(h:p:=by unfold EU;rw [AD hE]):=h
def yn(h:p:=by rw [hE];decide):=h
def aO4(h:p:=by unfold D4;rw [e1];rfl):=h
def yo(h:p:=by simp [Bn,RL,R]):=h
def aO5(h:p:=by unfold Fm;rw [AE hn]):=h
def lR(h:p:=by rw [hl,h2]):=h
def yp(h:p:=by rw [K4];omega):=h
def yq(h:p:=by simpa using e):=h
def VZ(h:p:=by rw [h]):=h
def lS(h:p:=by simp [w']):=h
def MI(h:p:=by rfl):=h
def yr(h:p:=by rw [<-hrec]):=h
def yt(h:p:=by rw [pA,Ce]):=h
def lT(h:p:=by simp [h]):=h
def lU(h:p:=by cases hi):=h
def lV(h:p:=by cases hp):=h
def yu(h:p:=by simp at hk):=h
def yv(h:p:=by rw [h1,h2]):=h
end Go
namespace Go.Proofs.YtipodhghjclmbaaGreatDoor
abbrev _root_.Go.AA:Int→Int:=Go.IntKind.i64.wrap
theorem _root_.Go.A9 {α β:Sort _}{a:α}{b:β}:a=a∧b=b:=⟨rfl,rfl⟩
set_option maxRecDepth 100000
set_option maxHeartbeats 4000000
open Go.Proofs.Tryz
open Go.RowKit
structure More where
 g:Array Obj
 d:Nat
instance:Inhabited More:=⟨⟨#[],0⟩⟩
open Go Go.RowKit
section
variable {P : Program} {ops : Array Oper} {md : Region.Mode} {G : Type} {D : World -> Prop} {C : G -> World -> Prop} {sp : Nat -> Bool}
def oA (P:Program) (w:World) (v:Value):Result Next->Prop
 | .ok (.value u) w'=>w'=w/\u=v
 | .ok .skip w'=>w'=w/\v=undef
 | .ok (.enter f args) w'=>w'=w/\Calls P f args w (λe w''=>e=.returned v/\Below w.heap.size w w'')
 |_=>False
def NY (P:Program) (o:Oper) (a:Act) (w:World) (v:Value):Prop:=oA P w v<|(execOp a.eval o).run P w
def calm (P:Program) (o:Oper) (a:Act) (D:World->Prop) (next:Act->Prop):Prop:=∃v,(∀w,D w->NY P o a w v)/\next (a.put o.dst v)
def DU (P:Program) (R:Value->World->Prop):Result Next->Prop
 | .ok (.value v) w'=>R v w'
 | .ok .skip w'=>R undef w'
 | .ok (.enter f args) w'=>Calls P f args w' λe w''=>∃v,e=.returned v/\R v w''
 | .ok (.round l f tmps assign body) w'=>RoundIn Fence.wide 0 P l f tmps assign body w' λe w''=>∃v,e=.returned v/\R v w''
 |_=>False
abbrev DP (r:Option Nat):Fence:={Fence.wide with round:=r}
theorem semAt_eq {o:Oper}{r:Option Nat}{ρ:Operand->Value}(h:∀c,o.op≠ .defer c):o.semAt r ρ=execOp ρ o:=by
 unfold Oper.semAt;split
 ·rename_i c hc
  grind
 ·rfl
def aCD {o:Oper}{ρ:Operand->Value}{w:World}{c:Call}(h:o.op=.defer c):(∃d w',(execOp ρ o).run P w=.ok (.defer d) w')\/(∃x w',(execOp ρ o).run P w=.halt x w'):=by
 unfold execOp;cases hr:(resolve ρ c o.type).run P w with
 |ok d w'=>left;exact ⟨d,w',G1⟩
 |halt x w'=>right;exact ⟨x,w',G1⟩
def U5 (P:Program) (o:Oper) (a:Act) (C:G->World->Prop) (g:G) (K:Act->G->Prop):Prop:=
 ∀w,C g w->DU P (λv w'=>∃g',C g' w'/\K (a.put o.dst v) g') ((execOp a.eval o).run P w)
def Ds (P:Program) (ops:Array Oper) (D:World->Prop) (C:G->World->Prop) (sp:Nat->Bool) (i:Nat) (K:Act->G->Prop) (a:Act) (g:G):Prop:=
 match ops[i]? with
 |none=>K a g
 |some o=>if az o (yielded ops a.tmps) then (if sp i then U5 P o a C g K else calm P o a D λa'=>K a' g) else K (a.put o.dst undef) g
def nU {o:Oper}{a:Act}{K K':Act->Prop}(h:∀a,K a->K' a) (hh:calm P o a D K):calm P o a D K':=
 let ⟨v,h1,h2⟩:=hh
 ⟨v,h1,h _ h2⟩
def K3 {R R':Value->World->Prop}(h:∀v w,R v w->R' v w) {r:Result Next}(hh:DU P R r):DU P R' r:=by
 cases r with
 |ok n w'=>
  cases n<;>simp only [DU] at hh|-
  case value u=>exact h _ _ hh
  case skip=>exact h _ _ hh
  case enter f args=>exact hh.mono λe w'' ⟨v,he,hr⟩=>⟨v,he,h _ _ hr⟩
  case round l f tmps assign body=>exact hh.mono λe w'' ⟨v,he,hr⟩=>⟨v,he,h _ _ hr⟩
 |halt x w'=>simp only [DU] at hh
def aDI {o:Oper}{a:Act}{g:G}{K K':Act->G->Prop}(h:∀a g,K a g->K' a g) (hh:U5 P o a C g K):U5 P o a C g K':=
 λw hw=>K3 (λ_ _ ⟨g',hc,hk⟩=>⟨g',hc,h _ _ hk⟩)<|hh w hw
theorem aFA {i:Nat}{a:Act}{g:G}{K K':Act->G->Prop}(h:∀a g,K a g->K' a g) (hh:Ds P ops D C sp i K a g):Ds P ops D C sp i K' a g:=by
 unfold Ds at*;split
 ·grind
 ·rename_i o ho
  simp only [ho] at hh;split
  ·rename_i hw
   simp only [hw,Bm] at hh;split
   ·rename_i hs;simp only [hs,Bm] at hh;exact aDI h hh
   ·rename_i hs;simp only [hs] at hh;exact nU (λa=>h a g) hh
  ·grind
def KH (P:Program) (md:Region.Mode) (ops:Array Oper) (D:World->Prop) (C:G->World->Prop) (sp:Nat->Bool) (Q:Act->G->Prop):Nat->Array Bool->Act->G->Prop
 |0,listed,a,g=>ay md ops listed=[]/\Q a g
 |fuel+1,listed,a,g=>
  (ay md ops listed=[]->Q a g)/\
  ∀i∈ay md ops listed,Ds P ops D C sp i (KH P md ops D C sp Q fuel<|listed.setIfInBounds i U) a g
def aDA {r:Option Nat}{m l:Nat}{f:FuncId}{tmps:Array Value}{assign body:Code}{w:World}{R:Ending->World->Prop}(h:RoundIn Fence.wide 0 P l f tmps assign body w R):RoundIn (DP r) m P l f tmps assign body w R:=
 ⟨ak,λc cs _=>h.2 c cs<|room_wide _⟩
theorem aea {o:Oper}{a:Act}{K:Act->Prop}{K':Act->World->Prop}{Q':Exit->Act->World->Prop}{w:World}(hw:D w)
  (h:∀a w',Below w.heap.size w w'->K a->K' a w') (hh:calm P o a D K) (r:Option Nat) (m:Nat):o.wpIn (DP r) m P a w K' Q':=by
 obtain ⟨v,h1,h2⟩:=hh
 have h3:=h1 w hw
 unfold NY at h3
 have hnd:∀c,o.op≠ .defer c:=λc hc=>by
  rcases aCD (P:=P) (ρ:=a.eval) (w:=w) hc with ⟨d,w',e⟩ |⟨d,w',e⟩<;>rw [e] at h3<;>simp only [oA] at h3
 refine ⟨λ_ _=>trivial,?_⟩
 rw [semAt_eq hnd];generalize (execOp a.eval o).run P w=r at*;cases r with
 | ok n w'=>
  cases n<;>simp only [oA] at h3<;>simp only [Oper.uponIn]
  case value u=>
   obtain ⟨e1,e2⟩:=h3;rw [e1,e2];exact h _ _ (Below.refl _ _) h2
  case skip=>
   obtain ⟨e1,e2⟩:=h3;rw [e1,<-e2];exact h _ _ (Below.refl _ _) h2
  case enter f args=>
   obtain ⟨e1,hc⟩:=h3;rw [e1];exact ⟨λh=>Ao,VB.2<|hc.mono λe w'' ⟨he,hw''⟩=>A8⟩
 |halt x w'=>simp only [oA] at h3
theorem afq {o:Oper}{a:Act}{g:G}{K:Act->G->Prop}{K':Act->World->Prop}{Q':Exit->Act->World->Prop}{w:World}(hw:C g w)
  (h:∀a g w',C g w'->K a g->K' a w') (hh:U5 P o a C g K) (r:Option Nat) (m:Nat):o.wpIn (DP r) m P a w K' Q':=by
 have h3:=hh w hw
 have hnd:∀c,o.op≠ .defer c:=λc hc=>by
  rcases aCD (P:=P) (ρ:=a.eval) (w:=w) hc with ⟨d,w',e⟩ |⟨d,w',e⟩<;>rw [e] at h3<;>simp only [DU] at h3
 refine ⟨λ_ _=>trivial,?_⟩
 rw [semAt_eq hnd];generalize (execOp a.eval o).run P w=r at*;cases r with
 | ok n w'=>
  cases n<;>simp only [DU] at h3<;>simp only [Oper.uponIn]
  case value u=>obtain ⟨g',h1,h2⟩:=h3;exact h _ _ _ h1 h2
  case skip=>obtain ⟨g',h1,h2⟩:=h3;exact h _ _ _ h1 h2
  case enter f args=>
   exact ⟨λh=>Ao,VB.2<|h3.mono λe w'' ⟨v,he,g',h1,h2⟩=>A8⟩
  case round l f tmps assign body=>
   exact ⟨λh=>Ao,aDA<|h3.mono λe w'' ⟨v,he,g',h1,h2⟩=>A8⟩
 |halt x w'=>simp only [DU] at h3
theorem aeC (hD:∀g w,C g w->D w) (hkeep:∀g w w',C g w->Below w.heap.size w w'->C g w') {i:Nat}{a:Act}{g:G}{K:Act->G->Prop}{K':Act->World->Prop}{Q':Exit->Act->World->Prop}{w:World}(hC:C g w)
  (h:∀a g w',C g w'->K a g->K' a w') (hh:Ds P ops D C sp i K a g) (r:Option Nat) (m:Nat):wpOpIn (DP r) m P ops Q' i K' a w:=by
 unfold Ds at hh;unfold wpOpIn;split
 ·grind
 ·rename_i o ho
  simp only [ho] at hh;split
  ·rename_i hw
   simp only [hw,Bm] at hh
   by_cases hs:sp i=U
   ·simp only [hs,Bm] at hh;exact afq hC h hh r m
   ·simp only [hs] at hh;exact aea (hD _ _ hC) (λa w' hb hk=>h a g w' (hkeep _ _ _ hC hb) hk) hh r m
  ·rename_i hw;simp only [hw] at hh;exact ⟨λ_ _=>trivial,h _ _ _ hC hh⟩
def nG (hD:∀g w,C g w->D w) (hkeep:∀g w w',C g w->Below w.heap.size w w'->C g w') {Q:Act->G->Prop}{Q':Exit->Act->World->Prop}(hQ:∀a g w,C g w->Q a g->Q' .normal a w) (r:Option Nat) (m:Nat):
  ∀(fuel:Nat) (listed:Array Bool) (a:Act) (g:G) (w:World),C g w->KH P md ops D C sp Q fuel listed a g->wpAnyIn (DP r) m P md ops Q' fuel listed a w
 |0,_,_,_,_,hw,h=>⟨h.1,hQ _ _ _ hw h.2⟩
 |fuel+1,_,_,_,_,hw,h=>⟨λh0=>hQ _ _ _ hw<|h.1 h0,λi hi=>aeC hD hkeep hw (λa' g' w' hw'=>nG hD hkeep hQ r m fuel _ a' g' w' hw') (h.2 i hi) r m⟩
def LH (P:Program) (ops:Array Oper) (D:World->Prop) (o:Oper) (v:Value) (a:Act):Prop:=
 (az o (yielded ops a.tmps)=U/\∀w,D w->NY P o a w v)\/
 (az o (yielded ops a.tmps)=X/\v=undef)
theorem LH.Ds {i:Nat}{o:Oper}{v:Value}{a:Act}{g:G}(hi:ops[i]? =ah o) (hs:sp i=X) (hy:LH P ops D o v a) {K:Act->G->Prop}(h:K (a.put o.dst v) g):Ds P ops D C sp i K a g:=by
 unfold Go.Proofs.YtipodhghjclmbaaGreatDoor.Ds;simp only [hi];rcases hy with ⟨hw,hv⟩ |⟨hw,rfl⟩
 ·simp only [hw,Bm,hs,IA,F9];exact ⟨v,hv,h⟩
 ·grind
def LH.of_same {o:Oper}{v:Value}{a a':Act}(hy:LH P ops D o v a) (he:execOp a'.eval o=execOp a.eval o)
  (hw:az o (yielded ops a'.tmps)=az o (yielded ops a.tmps)):LH P ops D o v a':=by
 unfold LH NY at*
 rwa [he,hw]
theorem acz {i:Nat}{o:Oper}{a:Act}{g:G}{K:Act->G->Prop}(hi:ops[i]? =ah o) (hs:sp i=X) (h:Ds P ops D C sp i K a g):∃v,LH P ops D o v a/\K (a.put o.dst v) g:=by
 unfold Ds at h;simp only [hi] at h
 by_cases hw:az o (yielded ops a.tmps)=U
 ·simp only [hw,Bm,hs,IA,F9] at h
  obtain ⟨v,h1,h2⟩:=h;exact ⟨v,.inl ⟨hw,h1⟩,h2⟩
 ·simp only [hw] at h
  exact ⟨undef,.inr ⟨A8,rfl⟩,h⟩
def arQ {j:Nat}{oi oj:Oper}{v:Value}(hj:ops[j]? =ah oj) (hap:oi.apart ops oj=U)
  (hsi:∀cs b,oi.op≠ .select cs b) (hsj:∀cs b,oj.op≠ .select cs b) {K:Act->G->Prop} {a:Act} {g:G}
  (hy:LH P ops D oi v a) (h:Ds P ops D C sp j K (a.put oi.dst v) g):
  Ds P ops D C sp j (λa' g'=>LH P ops D oi v a'/\K (a'.put oi.dst v) g') a g:=by
 obtain ⟨h1,h2,h3⟩:=ZW hap
 have keep:∀(a:Act),LH P ops D oi v a->∀u,LH P ops D oi v (a.put oj.dst u):=λa hy u=>
  hy.of_same (execOp_put oi hsi a oj.dst u h3) (wanted_put oi a oj.dst u h3)
 unfold Ds at*;simp only [hj] at*;rw [wanted_put oj a oi.dst v h1] at h;split
 ·rename_i hw
  simp only [hw,Bm] at h;split
  ·rename_i hs
   simp only [hs,Bm] at h;intro w hw'
   have:=h w hw'
   rw [execOp_put oj hsj a oi.dst v h1] at this;refine K3 (λu w'' ⟨g',hc,hk⟩=>⟨g',hc,keep a hy u,?_⟩) this
   rw [<-Act.put_comm a v u h2];exact hk
  ·rename_i hs
   simp only [hs] at h;obtain ⟨u,hu,hn⟩:=h;refine ⟨u,λw hw'=>?_,keep a hy u,by rw [<-Act.put_comm a v u h2];exact hn⟩
   have:=hu w hw'
   unfold NY at*
   rwa [execOp_put oj hsj a oi.dst v h1] at this
 ·rename_i hw
  simp only [hw] at h;exact ⟨keep a hy _,by rw [<-Act.put_comm a v undef h2];exact h⟩
theorem adH {Q:Act->G->Prop}{i:Nat}{oi:Oper}{v:Value}(hi:ops[i]? =ah oi) (hs:sp i=X) (hsel:∀(j:Nat) (o:Oper) cs b,ops[j]? =ah o->o.op≠ .select cs b):
  ∀(fuel:Nat) (listed:Array Bool) (a:Act) (g:G),
   (∀j oj,ops[j]? =ah oj->j≠i->listed.getD j U=X->(∀e∈oj.after,Region.binds md e=U->e.on≠i)->oi.apart ops oj=U)->
   i∈ay md ops listed->LH P ops D oi v a->
   KH P md ops D C sp Q fuel (listed.setIfInBounds i U) (a.put oi.dst v) g->KH P md ops D C sp Q (fuel+1) listed a g:=by
 intro fuel
 induction fuel with
 | zero=>
  intro listed a g _ hr hy H;refine ⟨λh=>A8,λj hj=>?_⟩
  by_cases hji:j=i
  ·subst hji;exact hy.Ds hi hs H
  ·have:=ready_mono hj hji
   rw [H.1] at this;cases this
 | succ fuel ih=>
  intro listed a g hfree hr hy H;refine ⟨λh=>A8,λj hj=>?_⟩
  by_cases hji:j=i
  ·subst hji;exact hy.Ds hi hs H
  ·have h1:=H.2 j (ready_mono hj hji)
   obtain ⟨hjun,oj,hoj,hall⟩:=Em.1 hj
   have hnot:∀e∈oj.after,Region.binds md e=U->e.on≠i:=λe he hb heq=>by
    have h1:=hall e he hb
    have h0:=(Em.1 hr).1
    rcases Pp i listed.size with h'|h'
    ·grind
    ·grind
   have h2:=arQ hoj (hfree j oj hoj hji hjun hnot) (λcs b=>hsel i oi cs b hi) (λcs b=>hsel j oj cs b hoj) hy h1
   have hfree':∀k ok,ops[k]? =ah ok->k≠i->(listed.setIfInBounds j U).getD k U=X->
     (∀e∈ok.after,Region.binds md e=U->e.on≠i)->oi.apart ops ok=true:=λk ok hk hki hun hno=>by
    refine hfree k ok hk hki ?_ hno
    by_cases hjk:j=k
    ·grind
    ·simp_all
   refine aFA (λa' g' h3=>ih (listed.setIfInBounds j U) a' g' hfree' (ready_mono hr<|OZ hji) h3.1 ?_) h2
   rw [Array.setIfInBounds_comm _ _ hji];exact h3.2
def Hl (P:Program) (ops:Array Oper) (D:World->Prop) (K:Act->Prop):List Bool->List Oper->Act->Prop
 |f::fs,o::os,a=>if f then Hl P ops D K fs os a else if az o (yielded ops a.tmps) then calm P o a D (Hl P ops D K fs os) else Hl P ops D K fs os (a.put o.dst undef)
 |_,_,a=>K a
def Gl (P:Program) (ops:Array Oper) (C:G->World->Prop) (Q:Act->G->Prop):List Bool->List Oper->Act->G->Prop
 |f::fs,o::os,a,g=>if f then (if az o (yielded ops a.tmps) then U5 P o a C g (Gl P ops C Q fs os) else Gl P ops C Q fs os (a.put o.dst undef) g) else Gl P ops C Q fs os a g
 |_,_,a,g=>Q a g
def J4 (md:Region.Mode) (ops:Array Oper) (flags:List Bool):List Nat->Array Bool->Bool
 | [],listed=>(ay md ops listed).isEmpty
 |i::is,listed=>(if flags.getD i X then ay md ops listed==[i] else (ay md ops listed).contains i&&Region.free md ops listed i)&&J4 md ops flags is (listed.setIfInBounds i U)
def idxs (b:Bool):List Bool->Nat->List Nat
 | [],_=>[]
 |f::fs,k=>if f=b then k::idxs b fs (k+1) else idxs b fs (k+1)
def gu (ops:Array Oper) (flags:List Bool):Bool:=letI a:=idxs X flags 0++idxs U flags 0;Region.noSelect ops&&M flags==ops.size&&M a==ops.size&&J4 .any ops flags a (Array.replicate ops.size X)
theorem aBs {flags:List Bool}{Q:Act->G->Prop}(hs:Region.noSelect ops=U):∀(is:List Nat) (listed:Array Bool) (a:Act) (g:G),
  J4 md ops flags is listed=U->(is.foldr (λi K=>Ds P ops D C (λi=>flags.getD i X) i K) Q) a g->KH P md ops D C (λi=>flags.getD i X) Q (M is) listed a g
 | [],_,_,_,hB,h=>⟨by simpa [J4] using hB,h⟩
 | i::is,listed,a,g,hB,h=>by
  simp only [J4,AY] at hB;obtain ⟨h1,h2⟩:=hB;simp only [kC] at h
  by_cases hf:flags.getD i X=U
  ·simp only [hf,Bm,Cz] at h1
   refine ⟨λh0=>A8,λj hj=>?_⟩
   rw [h1] at hj;obtain rfl:=HY.1 hj;exact aFA (λa' g' hk=>aBs hs is _ a' g' h2 hk) h
  ·rw [AE hf,AY] at h1
   obtain ⟨hr,hfr⟩:=h1
   have hr':i∈ay md ops listed:=A8
   obtain ⟨_,oi,hoi,_⟩:=Em.1 hr';obtain ⟨v,hy,hK⟩:=acz hoi A8 h;exact adH hoi A8 (Region.noSelect_spec hs) (M is) listed a g (Region.free_spec hoi hfr) hr' hy<|aBs hs is _ _ _ h2 hK
theorem aCC {flags:List Bool}{Q:Act->G->Prop}:∀(fs:List Bool) (os:List Oper) (k:Nat),(∀j,fs[j]? =flags[k+j]?)->(∀j,os[j]? =ops[k+j]?)->M fs=M os->
  ∀(a:Act) (g:G),Hl P ops D (λa=>Q a g) fs os a->((idxs X fs k).foldr (λi K=>Ds P ops D C (λi=>flags.getD i X) i K) Q) a g
 | [],[],_,_,_,_,_,_,h=>h
 | f::fs,o::os,k,hf,ho,hl,a,g,h=>by
  have ho0:ops[k]? =ah o:=aNd
  have hf0:flags.getD k X=f:=aMq
  have ih:=aCC (Q:=Q) (flags:=flags) fs os (k+1) (λj=>aMf) (λj=>aMg) A8
  cases f with
  |true=>simp only [idxs,Hl,Bool.true_eq_false,Bm,F9] at h|-;exact ih a g h
  |false=>
   simp only [idxs,Hl,Bm,IA,F9] at h|-;simp only [kC];unfold Ds;simp only [ho0,hf0,IA,F9];split
   ·rename_i hw;simp only [hw,Bm] at h;exact nU (λa' hk=>ih a' g hk) h
   ·rename_i hw;simp only [hw] at h;exact ih _ _ h
 | [],_::_,_,_,_,hl,_,_,_=>A8
 |_::_,[],_,_,_,hl,_,_,_=>A8
theorem aCX {flags:List Bool}{Q:Act->G->Prop}:∀(fs:List Bool) (os:List Oper) (k:Nat),(∀j,fs[j]? =flags[k+j]?)->(∀j,os[j]? =ops[k+j]?)->M fs=M os->
  ∀(a:Act) (g:G),Gl P ops C Q fs os a g->((idxs U fs k).foldr (λi K=>Ds P ops D C (λi=>flags.getD i X) i K) Q) a g
 | [],[],_,_,_,_,_,_,h=>h
 | f::fs,o::os,k,hf,ho,hl,a,g,h=>by
  have ho0:ops[k]? =ah o:=aNd
  have hf0:flags.getD k X=f:=aMq
  have ih:=aCX (Q:=Q) (flags:=flags) fs os (k+1) (λj=>aMf) (λj=>aMg) A8
  cases f with
  |false=>simp only [idxs,Gl,IA,F9] at h|-;exact ih a g h
  |true=>
   simp only [idxs,Gl,Bm] at h|-;simp only [kC];unfold Ds;simp only [ho0,hf0,Bm];split
   ·rename_i hw;simp only [hw,Bm] at h;exact aDI (λa' g' hk=>ih a' g' hk) h
   ·rename_i hw;simp only [hw] at h;exact ih _ _ h
 | [],_::_,_,_,_,hl,_,_,_=>A8
 |_::_,[],_,_,_,hl,_,_,_=>A8
theorem aeB {r:Option Nat}{m:Nat}{Q:Exit->Act->World->Prop}{a:Act}{w:World}{l:List Oper}(flags:List Bool) (g:G)
  (hB:gu l.toArray flags=U) (hD:∀g w,C g w->D w) (hkeep:∀g w w',C g w->Below w.heap.size w w'->C g w') (hC:C g {w with drawn:=w.drawn+1})
  (h:Hl P l.toArray D (λa1=>Gl P l.toArray C (λa' g'=>∀w',C g' w'->Q .normal a' w') flags l a1 g) flags l a):wpAnyIn (DP r) m P .any l.toArray Q l.toArray.size (Array.replicate l.toArray.size X) a {w with drawn:=w.drawn+1}:=by
 simp only [gu,AY,Cz] at hB;obtain ⟨⟨⟨h1,h2⟩,h3⟩,h4⟩:=hB;refine nG (D:=D) (C:=C) (sp:=λi=>flags.getD i X) hD hkeep (Q:=λa' g'=>∀w',C g' w'->Q .normal a' w') (λ_ _ w' hw' h=>h w' hw') r m _ _ _ g _ hC ?_
 have h5:=aBs (P:=P) (D:=D) (C:=C) (Q:=λa' g'=>∀w',C g' w'->Q .normal a' w') h1 _ _ a g h4
 rw [h3] at h5;refine h5 ?_;rw [List.foldr_append];refine aCC flags l 0 AI AI A8 a g ?_;refine (?_:∀(fs:List Bool) (os:List Oper) (a:Act),Hl P l.toArray D (λa1=>Gl P l.toArray C (λa' g'=>∀w',C g' w'->Q .normal a' w') flags l a1 g) fs os a->Hl P l.toArray D (λa=>(List.foldr (λi K=>Ds P l.toArray D C (λi=>flags.getD i X) i K) (λa' g'=>∀w',C g' w'->Q .normal a' w')<|idxs U flags 0) a g) fs os a) flags l a h
 intro fs
 induction fs with
 |nil=>intro os a hh;cases os<;>exact aCX flags l 0 AI AI A8 _ _ hh
 | cons f fs ih=>
  intro os a hh;cases os with
  |nil=>exact aCX flags l 0 AI AI A8 _ _ hh
  | cons o os=>
   simp only [Hl] at hh|-;split
   ·grind
   ·rename_i hf
    simp only [hf,IA,F9] at hh;split
    ·rename_i hw;simp only [hw,Bm] at hh;exact nU (λa' hk=>ih _ _ hk) hh
    ·grind
def afy {D:World->Prop}{K:Act->Prop}{a:Act}(h:K a):Hl P ops D K [] [] a:=by simpa [Hl] using h
def afx {C:G->World->Prop}{Q:Act->G->Prop}{a:Act}{g:G}(h:Q a g):Gl P ops C Q [] [] a g:=by simpa [Gl] using h
def m6 (md:Region.Mode) (ops:Array Oper):List Nat->Array Bool->Bool
 | [],_=>U
 |i::is,listed=>((ay md ops listed).contains i&&Region.free md ops listed i)&&m6 md ops is (listed.setIfInBounds i U)
def TP:List Nat->Array Bool->Array Bool
 | [],l=>l
 |i::is,l=>TP is<|l.setIfInBounds i U
theorem adI {flags:List Bool}{Q:Act->G->Prop}(hs:Region.noSelect ops=U) (m:Nat):∀(is:List Nat) (listed:Array Bool) (a:Act) (g:G),(∀i∈is,flags.getD i X=X)->
  m6 md ops is listed=U->(is.foldr (λi K=>Ds P ops D C (λi=>flags.getD i X) i K) λa g=>KH P md ops D C (λi=>flags.getD i X) Q m (TP is listed) a g) a g->KH P md ops D C (λi=>flags.getD i X) Q (M is+m) listed a g
 | [],_,_,_,_,_,h=>by rw [Bp,EM];exact h
 |i::is,listed,a,g,hf,hB,h=>by
  simp only [m6,AY] at hB;obtain ⟨⟨hr,hfr⟩,h2⟩:=hB;simp only [kC,TP] at h
  have hfi:=hf i AI
  have hr':i∈ay md ops listed:=A8
  obtain ⟨_,oi,hoi,_⟩:=Em.1 hr';obtain ⟨v,hy,hK⟩:=acz hoi hfi h
  have:=adH hoi hfi (Region.noSelect_spec hs) (M is+m) listed a g (Region.free_spec hoi hfr) hr' hy<|adI hs m is _ _ _ (λj hj=>hf j A8) h2 hK
  grind
theorem nN (b:Bool):∀(fs:List Bool) (k i:Nat),i∈idxs b fs k->k<=i/\fs[i-k]? =ah b
 | [],_,_,h=>by simp [idxs] at h
 | f::fs,k,i,h=>by
  simp only [idxs] at h;split at h
  ·rename_i hf
   rcases B7.1 h with rfl|h
   ·grind
   ·exact aLm
  ·exact aLm
def TW (ops:Array Oper) (flags:List Bool):Bool:=
 Region.noSelect ops&&M flags==ops.size&&M (idxs X flags 0)+M (idxs U flags 0)==ops.size&&m6 .any ops (idxs X flags 0) (Array.replicate ops.size X)
theorem adG {r:Option Nat}{m:Nat}{Q:Exit->Act->World->Prop}{a:Act}{w:World}{l:List Oper}(flags:List Bool) (g:G)
  (hB:TW l.toArray flags=U) (hD:∀g w,C g w->D w) (hkeep:∀g w w',C g w->Below w.heap.size w w'->C g w') (hC:C g {w with drawn:=w.drawn+1})
  (h:Hl P l.toArray D (λa1=>KH P .any l.toArray D C (λi=>flags.getD i X) (λa' g'=>∀w',C g' w'->Q .normal a' w') (M<|idxs U flags 0) (TP (idxs X flags 0)<|Array.replicate l.toArray.size X) a1 g) flags l a):wpAnyIn (DP r) m P .any l.toArray Q l.toArray.size (Array.replicate l.toArray.size X) a {w with drawn:=w.drawn+1}:=by
 simp only [TW,AY,Cz] at hB;obtain ⟨⟨⟨h1,h2⟩,h3⟩,h4⟩:=hB;refine nG (D:=D) (C:=C) (sp:=λi=>flags.getD i X) hD hkeep (Q:=λa' g'=>∀w',C g' w'->Q .normal a' w') (λ_ _ w' hw' h=>h w' hw') r m _ _ _ g _ hC ?_
 have h5:=adI (P:=P) (D:=D) (C:=C) (flags:=flags) (Q:=λa' g'=>∀w',C g' w'->Q .normal a' w') h1 (M<|idxs U flags 0) (idxs X flags 0) _ a g (λi hi=>by
  obtain ⟨_,h⟩:=nN X flags 0 i hi;simp only [Nat.sub_zero] at h
  simp [List.getD,h]) h4
 rw [h3] at h5;refine h5 ?_;exact aCC flags l 0 AI AI A8 a g h
def U4 (md:Region.Mode) (ops:Array Oper):Nat->List Nat->List Nat
 |0,l=>l
 |k+1,l=>l++U4 md ops k (l.flatMap λi=>match ops[i]? with
  |some o=>(o.after.toList.filter<|Region.binds md).map (·.on)
  |none=>[])
def lastB (md:Region.Mode) (ops:Array Oper) (o:Oper):Bool:=
 o.guard.isNone&&o.after.toList.all (λe=>an<|e.on<ops.size)&&
 (au ops.size).all (λi=>(match ops[i]? with
  |some p=>p.after.toList.all (λe=>an<|e.on<i)&&(match p.guard with|none=>U|some (j,_)=>an<|j<ops.size)
  |none=>U))&&
 (let l:=U4 md ops ops.size<|(o.after.toList.filter<|Region.binds md).map (·.on);(au ops.size).all λi=>l.contains i)
def Closed (md:Region.Mode) (ops:Array Oper) (listed:Array Bool):Prop:=
 ∀(i:Nat) (o:Oper),ops[i]? =ah o->listed.getD i X=U->∀e∈o.after,Region.binds md e=U->listed.getD e.on X=U
theorem Closed.back {listed:Array Bool}(hc:Closed md ops listed):∀(k:Nat) (l:List Nat),(∀i∈l,listed.getD i X=U)->∀i∈U4 md ops k l,listed.getD i X=U
 |0,_,h=>h
 | k+1,l,h=>λi hi=>by
  simp only [U4,Be] at hi;rcases hi with hi|hi
  ·exact h i hi
  ·refine Closed.back hc k _ (λj hj=>?_) i hi
   obtain ⟨i',h1,h2⟩:=List.mem_flatMap.1 hj;split at h2
   ·rename_i o ho
    obtain ⟨e,h3,rfl⟩:=Ej.1 h2;obtain ⟨h4,h5⟩:=DE.1 h3;exact hc i' o ho (h i' h1) e A8 h5
   ·cases h2
def Closed.put {listed:Array Bool}(hc:Closed md ops listed) {i:Nat}(hi:i∈ay md ops listed):Closed md ops (listed.setIfInBounds i U):=λj o hj hl e he hb=>by
 by_cases hij:i=j
 ·subst hij
  obtain ⟨_,o',ho',h2⟩:=Em.1 hi;obtain rfl:o'=o:=Dw<|ho'.symm.trans hj;exact getD_set_true<|h2 e he hb
 ·rw [ZR X hij] at hl
  exact getD_set_true<|hc j o hj hl e he hb
def Vi {l:Array Bool}{i:Nat}(d b:Bool) (h:i<l.size):(l.push b).getD i d=l.getD i d:=by
 simp [kF,VC h]
def aE6 {l:Array Bool}(b d:Bool):(l.push b).getD l.size d=b:=AI
theorem set_push {l:Array Bool}{i:Nat}(b:Bool) (h:i<l.size):(l.push b).setIfInBounds i U=(l.setIfInBounds i U).push b:=by
 apply Array.ext_getElem?
 intro j
 by_cases hij:i=j
 ·subst hij
  grind
 ·grind
def dO {l:Array Bool}{i:Nat}(h:i<l.size):l.getD i U=l.getD i false:=lT
theorem afE {o:Oper}(hl:lastB md ops o=U) {listed:Array Bool}(hs:listed.size=ops.size) (hr:ay md ops listed=[]):∀i,i<ops.size->listed.getD i X=true:=by
 intro i
 induction i using Nat.strongRecOn with
 | _ i ih=>
  intro hi
  by_cases hL:listed.getD i X=U
  ·exact hL
  exfalso;simp only [lastB,AY,BP,IZ] at hl
  have:i∈ay md ops listed:=Em.2 ⟨A8,_,Pl hi,λe he hb=>by
   have h3:e.on<i:=A8
   exact ih e.on h3 A0⟩
  rw [hr] at this;cases this
def XE (F:Fence) (m:Nat) (P:Program) (ops:Array Oper) (Q:Exit->Act->World->Prop) (n:Nat):Exit->Act->World->Prop
 | .normal,a,w=>wpOpIn F m P ops Q n (Q .normal) a w
 |e,a,w=>Q e a w
def aeX {F:Fence}{m n:Nat}{ops:Array Oper}{Q:Exit->Act->World->Prop}{o:Oper}{a:Act}{K:Act->World->Prop}{r:Result Next}(h:o.uponIn F m P a K (XE F m P ops Q n) r):o.uponIn F m P a K Q r:=by
 cases r with
 |ok x w'=>cases x<;>exact h
 |halt x w'=>cases x<;>exact h
def ae1 {o:Oper}{tmps:Array Value}{j:Nat}(h:j<ops.size):yielded (ops.push o) tmps j=yielded ops tmps j:=by
 simp [yielded,kF,VC h]
def aqt {F:Fence}{m:Nat}{Q:Exit->Act->World->Prop}{o:Oper}(hl:lastB md ops o=U) {i:Nat}(hi:i<ops.size) {K:Act->World->Prop}{a:Act}{w:World}{n:Nat}
  (h:wpOpIn F m P ops (XE F m P (ops.push o) Q n) i K a w):wpOpIn F m P (ops.push o) Q i K a w:=by
 unfold wpOpIn at*;simp only [kF,VC hi,F9,Pl hi] at h|-;simp only [lastB,AY,BP,IZ] at hl
 have h1:=hl.1.2 i hi
 simp only [Pl hi,AY] at h1
 have hw:az ops[i] (yielded (ops.push o) a.tmps)=az ops[i] (yielded ops a.tmps):=by
  unfold az
  have h2:=h1.2
  split
  ·rfl
  ·rename_i j want hg
   simp only [hg,Ac] at h2;rw [ae1 h2]
 rw [hw];split
 ·rename_i hw'
  rw [AD hw'] at h;exact ⟨h.1,aeX h.2⟩
 ·rename_i hw'
  rw [AE hw'] at h;exact h
theorem aC6 {o:Oper}(hl:lastB md ops o=U) {listed:Array Bool}(hs:listed.size=ops.size) {b:Bool}{i:Nat}(hi:i<ops.size) (h:i∈ay md (ops.push o) (listed.push b)):i∈ay md ops listed:=by
 obtain ⟨h1,o',ho',h2⟩:=Em.1 h;rw [Vi _ _<|hs▸hi] at h1;simp only [kF,VC hi,F9,Pl hi] at ho';obtain rfl:=Dw ho';refine Em.2 ⟨h1,_,Pl hi,λe he hb=>?_⟩
 simp only [lastB,AY,BP,IZ] at hl
 have h4:e.on<i:=A8
 have h5:=h2 e he hb
 rwa [Vi _ _ A0] at h5
theorem QE {listed:Array Bool}{i:Nat}(h:i∈ay md ops listed):i<ops.size:=by
 obtain ⟨_,o,ho,_⟩:=Em.1 h
 grind
def aem {o:Oper}(hl:lastB md ops o=U) {listed:Array Bool}(hs:listed.size=ops.size) (hr:ay md ops listed=[]):ay md (ops.push o) (listed.push U)=[]:=by
 refine wq.2 λi hi=>?_
 have h1:=QE hi
 rw [xW] at h1;rcases Pp i ops.size with h2|h2
 ·have:=aC6 hl hs h2 hi
  rw [hr] at this;cases this
 ·obtain rfl:i=ops.size:=A0
  have h3:=(Em.1 hi).1
  rw [<-hs,aE6] at h3;cases h3
theorem afA {o:Oper}(hl:lastB md ops o=U) {listed:Array Bool}(hs:listed.size=ops.size) (ha:∀i,i<ops.size->listed.getD i X=U):ops.size∈ay md (ops.push o) (listed.push X):=by
 refine Em.2 ⟨by rw [<-hs,aE6],o,AI,λe he _=>?_⟩
 simp only [lastB,AY,BP] at hl
 have h1:e.on<ops.size:=A8
 rw [Vi _ _ A0]
 grind
theorem anP {o:Oper}(hl:lastB md ops o=U) {listed:Array Bool}(hs:listed.size=ops.size) (hc:Closed md ops listed) (h:ops.size∈ay md (ops.push o) (listed.push X)):ay md ops listed=[]:=by
 obtain ⟨_,o',ho',h2⟩:=Em.1 h;simp only [lastB,AY,BP] at hl
 have h0:∀i∈U4 md ops ops.size ((o.after.toList.filter<|Region.binds md).map (·.on)),listed.getD i X=true:=hc.back _ _ λi hi=>by
  obtain ⟨e,h3,rfl⟩:=Ej.1 hi;obtain ⟨h4,h5⟩:=DE.1 h3
  have h6:e.on<ops.size:=A8
  have h7:=h2 e A8 h5
  rwa [Vi _ _ A0] at h7
 refine wq.2 λi hi=>?_
 have h1:=QE hi
 have h3:=hl.2 i A8
 have h4:=h0 i A8
 have h5:=(Em.1 hi).1
 rw [dO A0,h4] at h5;cases h5
theorem aec {F:Fence}{m:Nat}{Q:Exit->Act->World->Prop}{o:Oper}(hl:lastB md ops o=U):∀(fuel:Nat) (listed:Array Bool) (a:Act) (w:World),listed.size=ops.size->Closed md ops listed->
  wpAnyIn F m P md ops (XE F m P (ops.push o) Q ops.size) fuel listed a w->wpAnyIn F m P md (ops.push o) Q (fuel+1) (listed.push X) a w:=by
 have hend:∀(fuel:Nat) (listed:Array Bool) (a:Act) (w:World),listed.size=ops.size->ay md ops listed=[]->wpOpIn F m P (ops.push o) Q ops.size (Q .normal) a w->
   wpOpIn F m P (ops.push o) Q ops.size (wpAnyIn F m P md (ops.push o) Q fuel<|(listed.push X).setIfInBounds ops.size U) a w:=λfuel listed a w hs hr h=>by
  have he:(listed.push X).setIfInBounds ops.size U=listed.push true:=by
   apply Array.ext_getElem?
   intro j
   by_cases hij:listed.size=j
   ·grind
   ·grind
  rw [he];refine wpOpIn_mono (λa w h=>?_) h
  have h0:=aem hl hs hr
  cases fuel with
  |zero=>exact ⟨h0,h⟩
  |succ fuel=>exact ⟨λ_=>h,λi hi=>A8⟩
 have hdead:∀(listed:Array Bool),listed.size=ops.size->Closed md ops listed->ay md (ops.push o) (listed.push X)≠ []:=λlisted hs _ h=>by
  by_cases hr:ay md ops listed=[]
  ·have:=afA hl hs (afE hl hs hr)
   rw [h] at this;cases this
  ·obtain ⟨i,hi⟩:=List.exists_mem_of_ne_nil _ hr
   have hlt:=QE hi
   obtain ⟨h1,o',ho',h2⟩:=Em.1 hi
   have:i∈ay md (ops.push o) (listed.push X):=Em.2 ⟨by rw [Vi _ _ A0];exact h1,o',A8,λe he hb=>by
    have h3:=h2 e he hb
    rw [Vi]
    ·exact h3
    ·rcases Pp e.on listed.size with h'|h'
     ·exact h'
     ·simp [xP h'] at h3⟩
   rw [h] at this;cases this
 intro fuel
 induction fuel with
 | zero=>
  intro listed a w hs hc h;refine ⟨λh0=>absurd h0<|hdead listed hs hc,λi hi=>?_⟩
  have h1:=QE hi
  rw [xW] at h1;rcases Pp i ops.size with h2|h2
  ·have:=aC6 hl hs h2 hi
   rw [h.1] at this;cases this
  ·obtain rfl:i=ops.size:=A0
   exact hend 0 listed a w hs h.1 h.2
 | succ fuel ih=>
  intro listed a w hs hc h;refine ⟨λh0=>absurd h0<|hdead listed hs hc,λi hi=>?_⟩
  have h1:=QE hi
  rw [xW] at h1;rcases Pp i ops.size with h2|h2
  ·have hr:=aC6 hl hs h2 hi
   refine aqt hl h2<|wpOpIn_mono (λa w hk=>?_)<|h.2 i hr
   rw [set_push _ A0];exact ih _ a w A8 (hc.put hr) hk
  ·obtain rfl:i=ops.size:=A0
   have hr:=anP hl hs hc hi
   exact hend (fuel+1) listed a w hs hr<|h.1 hr
theorem ado {F:Fence}{m id:Nat}{Q:Exit->Act->World->Prop}{o:Oper}{a:Act}{w:World}(hm:P.follows .mixedOrders=U) (hl:lastB .any ops o=U)
  (h:wpAnyIn F m P .any ops (XE F m P (ops.push o) Q ops.size) ops.size (Array.replicate ops.size X) a {w with drawn:=w.drawn+1}):(Code.region id (ops.push o) U).wpIn F m P Q a w:=by
 refine wpIn_region_any hm ?_
 have h1:=aec hl ops.size (Array.replicate ops.size X) a _ AI (λi o' ho' hL=>by
  have:=(HX.1 ho').1
  simp [this] at hL) h
 grind
end
structure DL (tr:List Nat) (w w':World):Prop where
 os:w'.os=w.os
 tape:w'.tape=w.tape
 output:w'.output=w.output
 size:w.heap.size<=w'.heap.size
 block:∀k,k<w.heap.size->k∉tr->w'.heap[k]? =w.heap[k]?
def aed {tr:List Nat}{w w1 w2:World}(h:DL tr w w1) (hb:Below w1.heap.size w1 w2):DL tr w w2:=
 ⟨hb.os.trans h.os,hb.tape.trans h.tape,hb.output.trans h.output,HZ h.size hb.size,λk hk hn=>(hb.block k<|ZD hk h.size).trans<|h.block k hk hn⟩
def DL.refl (tr:List Nat) (w:World):DL tr w w:=⟨rfl,rfl,rfl,Ar _,λ_ _ _=>rfl⟩
end Go.Proofs.YtipodhghjclmbaaGreatDoor
namespace Go.Sx
open Go.Proofs.YtipodhghjclmbaaGreatDoor
open Go Go.RowKit
inductive Ty where
 |int (k:IntKind)
 |bool
 |str
 |sl (e:Ty)
 |pair (a b:Ty)
abbrev A7:Ty:=.int .i64
abbrev Ty.D:Ty->Type
 | .int _=>Int
 | .bool=>Bool
 | .str=>ByteArray
 | .sl e=>List e.D
 | .pair a b=>a.D×b.D
def Ty.n:Ty->Nat
 | .pair a b=>a.n+b.n
 |_=>1
def Ty.dflt:(t:Ty)->t.D
 | .int _=>(0:Int)
 | .bool=>X
 | .str=>ByteArray.empty
 | .sl _=>[]
 | .pair a b=>(a.dflt,b.dflt)
abbrev gx {e:Ty}(l:List e.D) (n:Int):e.D:=l.getD n.toNat e.dflt
def RD (Z:Nat->Prop) (w:World):(t:Ty)->t.D->Nat->Nat->Prop
 | .int k,n,b,o=>w.cell? ⟨b,o,aj⟩=ah (Y k n)
 | .bool,x,b,o=>w.cell? ⟨b,o,aj⟩=ah (.bool x)
 | .str,s,b,o=>w.cell? ⟨b,o,aj⟩=ah (.string s)
 | .sl e,l,b,o=>∃a cap,w.cell? ⟨b,o,aj⟩=ah (.slice a (M l) cap)/\M l<=cap/\(0<M l->∃b' o',a=ah ⟨b',o',aj⟩/\Z b'/\∀(i:Nat) (d:e.D),l[i]? =ah d->RD Z w e d b' (o'+i*e.n))
 | .pair x y,d,b,o=>RD Z w x d.1 b o/\RD Z w y d.2 b (o+x.n)
def Q5 {w w':World}{b o:Nat}(h:w'.heap[b]? =w.heap[b]?):w'.cell? ⟨b,o,aj⟩=w.cell? ⟨b,o,aj⟩:=World.cell?_of_block (w:=w) (w':=w') h
def RD.keep {Z Z':Nat->Prop}{w w':World}(hZ:∀b,Z b->Z' b) (hw:∀b,Z b->w'.heap[b]? =w.heap[b]?):
  ∀(t:Ty) (d:t.D) (b o:Nat),w'.heap[b]? =w.heap[b]? ->RD Z w t d b o->RD Z' w' t d b o
 | .int _,_,b,o,hb,h=>yA
 | .bool,_,b,o,hb,h=>yA
 | .str,_,b,o,hb,h=>yA
 | .sl e,l,b,o,hb,h=>by
  obtain ⟨a,cap,h1,h2,h3⟩:=h;refine ⟨a,cap,by rw [Q5 hb];exact h1,h2,λhn=>?_⟩
  obtain ⟨b',o',h4,h5,h6⟩:=h3 hn;exact ⟨b',o',h4,hZ _ h5,λi d hd=>RD.keep hZ hw e d b' _ (hw b' h5)<|h6 i d hd⟩
 | .pair x y,d,b,o,hb,h=>by
  exact ⟨RD.keep hZ hw x d.1 b o hb h.1,RD.keep hZ hw y d.2 b _ hb h.2⟩
def RD.mono {Z Z':Nat->Prop}{w w':World}(hZ:∀b,Z b->Z' b) (hw:∀b,Z b->w'.heap[b]? =w.heap[b]?) (t:Ty) (d:t.D) (b o:Nat) (hz:Z b) (h:RD Z w t d b o):RD Z' w' t d b o:=RD.keep hZ hw t d b o (hw b hz) h
structure Loc where
 (b o:Nat)
 cap:Option Nat
instance:Inhabited Loc:=⟨⟨0,0,aj⟩⟩
inductive LV where
 |v (x:Value)
 |bl (b:Bool)
 |ki (k:IntKind) (n:Int)
 |own (k off:Nat)
 |agg (l:List LV)
 |AO (l:List LV)
 |fn (f:FuncId) (cap:List LV)
 |fb (f:FuncId) (fs:List LV)
 |xq (n:Nat) (f:Nat->LV)
 |xl (e:Ty) (l:List e.D)
 |os (k es off n:Nat)
 |op (k es i j:Nat)
 |om (k:Nat)
 |mp (kd:IntKind) (ks:List Int) (vs:List LV)
 |oc (k es off n c:Nat)
 |CK (k:Nat)
 |junk
mutual
def R (β:Nat->Loc) (Z:Nat->Prop) (w:World):LV->Value->Prop
 | .v x,y=>y=x
 | .bl b,y=>y=.bool b
 | .ki k n,y=>y=Y k n
 | .own k off,y=>y=.pointer (ah ⟨(β k).b,off,aj⟩)
 | .agg l,y=>∃ys,y=.agg ys/\RL β Z w l ys.toList
 | .AO l,y=>∃ys,y=.tuple ys/\RL β Z w l ys.toList
 | .fn f cap,y=>∃ys,y=.func (.func f) #[] ys/\RL β Z w cap ys.toList
 | .fb f cap,y=>∃ys,y=.func (.func f) ys #[]/\RL β Z w cap ys.toList
 | .xq n f,y=>∃b off,y=.pointer (ah ⟨b,off,aj⟩)/\Z b/\∀j,j<n->∃z,w.cell? ⟨b,off+j,aj⟩=ah z/\R β Z w (f j) z
 | .xl e l,y=>∃a cap,y=.slice a (M l) cap/\M l<=cap/\(0<M l->∃b off,a=ah ⟨b,off,aj⟩/\Z b/\∀(i:Nat) (d:e.D),l[i]? =ah d->RD Z w e d b (off+i*e.n))
 | .os k es off n,y=>match (β k).cap with
  |none=>n=0/\off=0/\y=.slice aj 0 0
  |some c=>off+n<=c/\∃a,y=.slice (ah a) n (c-off)/\(0<c-off->a=⟨(β k).b,(β k).o+off*es,aj⟩)
 | .op k es i j,y=>(β k).cap≠aj/\y=.pointer (ah ⟨(β k).b,(β k).o+i*es+j,aj⟩)
 | .om k,y=>y=.map (ah (β k).b)
 | .mp kd ks vs,y=>∃r es clock,y=.map (ah r)/\Z r/\w.heap[r]? =ah (.map es clock)/\es.toList.map (·.key)=ks.map (.int kd)/\RL β Z w vs (es.toList.map (·.val))
 | .oc k es off n c,y=>off+n<=c/\∃a,y=.slice (ah a) n (c-off)/\(0<c-off->a=⟨(β k).b,off*es,aj⟩)
 | .CK k,y=>y=.func (.yield (β k).b) #[] #[]
 | .junk,_=>True
def RL (β:Nat->Loc) (Z:Nat->Prop) (w:World):List LV->List Value->Prop
 | [],ys=>ys=[]
 |x::xs,ys=>∃y zs,ys=y::zs/\R β Z w x y/\RL β Z w xs zs
end
/-Which own blocks a value names:all below n. -/
mutual
def okV (n:Nat):LV->Prop
 | .v _=>True
 | .bl _=>True
 | .ki _ _=>True
 | .own k _=>k<n
 | .agg l=>AS n l
 | .AO l=>AS n l
 | .fn _ cap=>AS n cap
 | .fb _ cap=>AS n cap
 | .xq _ f=>∀j,okV 0 (f j)
 | .xl _ _=>True
 | .os k _ _ _=>k<n
 | .op k _ _ _=>k<n
 | .om k=>k<n
 | .mp _ _ vs=>AS n vs
 | .oc k _ _ _ _=>k<n
 | .CK k=>k<n
 | .junk=>True
def AS (n:Nat):List LV->Prop
 | []=>True
 |x::xs=>okV n x/\AS n xs
end
mutual
def okV.mono {n m:Nat}(h:n<=m):∀(x:LV),okV n x->okV m x
 | .v _,_=>trivial
 | .bl _,_=>trivial
 | .ki _ _,_=>trivial
 | .own k _,hk=>VS
 | .agg l,hk=>lG
 | .AO l,hk=>lG
 | .fn _ l,hk=>lG
 | .fb _ l,hk=>lG
 | .xq _ f,hk=>by simp only [okV] at*;exact hk
 | .xl _ _,_=>trivial
 | .os k _ _ _,hk=>VS
 | .op k _ _ _,hk=>VS
 | .om k,hk=>VS
 | .mp _ _ vs,hk=>by simp only [okV] at*;exact AS.mono h vs hk
 | .oc k _ _ _ _,hk=>VS
 | .CK k,hk=>VS
 | .junk,_=>trivial
def AS.mono {n m:Nat}(h:n<=m):∀(x:List LV),AS n x->AS m x
 | [],_=>trivial
 |x::xs,hk=>by simp only [AS] at*;exact ⟨okV.mono h x hk.1,AS.mono h xs hk.2⟩
end
mutual
def R.mono {β β':Nat->Loc}{Z Z':Nat->Prop}{w w':World}{n:Nat}(hβ:∀k,k<n->β' k=β k) (hZ:∀b,Z b->Z' b) (hw:∀b,Z b->w'.heap[b]? =w.heap[b]?):
  ∀(x:LV) (y:Value),okV n x->R β Z w x y->R β' Z' w' x y
 | .v _,_,_,h=>h
 | .bl _,_,_,h=>h
 | .ki _ _,_,_,h=>h
 | .own k off,y,hk,h=>by simp only [R,okV] at*;rw [h,hβ k hk]
 | .agg l,y,hk,h=>by
  exact kP
 | .AO l,y,hk,h=>by
  exact kP
 | .fn f l,y,hk,h=>by
  exact kP
 | .fb f l,y,hk,h=>by
  exact kP
 | .xq n f,y,hk,h=>by
  simp only [R,okV] at*;obtain ⟨b,off,h1,hz,h2⟩:=h;refine ⟨b,off,h1,hZ b hz,λj hj=>?_⟩
  obtain ⟨z,h3,h4⟩:=h2 j hj;exact ⟨z,by rw [Q5 (hw b hz)];exact h3,R.mono hβ hZ hw (f j) z (okV.mono (N9 _) _ (hk j)) h4⟩
 | .xl e l,y,hk,h=>by
  simp only [R] at*;obtain ⟨a,cap,h1,h2,h3⟩:=h;refine ⟨a,cap,h1,h2,λhn=>?_⟩
  obtain ⟨b,off,h4,h5,h6⟩:=h3 hn;exact ⟨b,off,h4,hZ b h5,λi d hd=>RD.mono hZ hw e d b _ h5 (h6 i d hd)⟩
 | .os k es off n,y,hk,h=>Zv
 | .op k es i j,y,hk,h=>Zv
 | .om k,y,hk,h=>Zv
 | .mp kd ks vs,y,hk,h=>by
  simp only [R,okV] at*;obtain ⟨r,es,clock,h1,h2,h3,h4,h5⟩:=h;exact ⟨r,es,clock,h1,hZ r h2,by rw [hw r h2];exact h3,h4,RL.mono hβ hZ hw vs _ hk h5⟩
 | .oc k es off n c,y,hk,h=>Zv
 | .CK k,y,hk,h=>Zv
 | .junk,_,_,_=>JR
def RL.mono {β β':Nat->Loc}{Z Z':Nat->Prop}{w w':World}{n:Nat}(hβ:∀k,k<n->β' k=β k) (hZ:∀b,Z b->Z' b) (hw:∀b,Z b->w'.heap[b]? =w.heap[b]?):
  ∀(x:List LV) (y:List Value),AS n x->RL β Z w x y->RL β' Z' w' x y
 | [],_,_,h=>aNe
 |x::xs,ys,hk,h=>by
  simp only [RL,AS] at*;obtain ⟨y,zs,h1,h2,h3⟩:=h;exact ⟨y,zs,h1,R.mono hβ hZ hw x y hk.1 h2,RL.mono hβ hZ hw xs zs hk.2 h3⟩
end
def Bn:(t:Ty)->t.D->List LV
 | .int k,n=>[.v<|Y k n]
 | .bool,b=>[.v<|.bool b]
 | .str,s=>[.v<|.string s]
 | .sl e,l=>[.xl e l]
 | .pair a b,d=>Bn a d.1++Bn b d.2
def K4:∀(t:Ty) (d:t.D),M (Bn t d)=t.n
 | .int _,_=>rfl
 | .bool,_=>rfl
 | .str,_=>rfl
 | .sl _,_=>rfl
 | .pair a b,d=>by simp only [Bn,BF,Ty.n,K4 a d.1,K4 b d.2]
def NT (n:Nat):∀(t:Ty) (d:t.D),AS n (Bn t d)
 | .int _,_=>⟨ak,ak⟩
 | .bool,_=>⟨ak,ak⟩
 | .str,_=>⟨ak,ak⟩
 | .sl _,_=>⟨ak,ak⟩
 | .pair a b,d=>by
  have app:∀(l1 l2:List LV),AS n l1->AS n l2->AS n (l1++l2):=by
   intro l1
   induction l1 with
   |nil=>intro l2 _ h;exact h
   |cons x xs ih=>intro l2 h1 h2;exact ⟨h1.1,ih l2 h1.2 h2⟩
  simp only [Bn];exact app _ _ (NT n a d.1)<|NT n b d.2
def Wo {β:Nat->Loc}{Z:Nat->Prop}{w:World}:∀(t:Ty) (d:t.D) (b o:Nat),RD Z w t d b o->∀(j:Nat) (x:LV),(Bn t d)[j]? =ah x->∃z,w.cell? ⟨b,o+j,aj⟩=ah z/\R β Z w x z
 | .int k,n,b,o,h,j,x,hx=>by
  exact xS
 | .bool,n,b,o,h,j,x,hx=>by
  exact xS
 | .str,n,b,o,h,j,x,hx=>by
  exact xS
 | .sl e,l,b,o,h,j,x,hx=>by
  simp only [Bn] at hx;cases j with
  |zero=>
   simp at hx;subst hx
   simp only [RD] at h;obtain ⟨a,cap,h1,h2,h3⟩:=h;exact ⟨_,h1,by simp only [R];exact ⟨a,cap,rfl,h2,h3⟩⟩
  |succ j=>simp at hx
 | .pair p q,d,b,o,h,j,x,hx=>by
  simp only [Bn] at hx;simp only [RD] at h
  by_cases hj:j<p.n
  ·rw [HW (by rw [K4];exact hj)] at hx
   exact Wo p d.1 b o h.1 j x hx
  ·rw [GL yp,K4] at hx
   obtain ⟨z,h1,h2⟩:=Wo q d.2 b (o+p.n) h.2 (j-p.n) x hx;exact ⟨z,by rw [show o+j=o+p.n+(j-p.n) by omega];exact h1,h2⟩
def RL.length {β:Nat->Loc}{Z:Nat->Prop}{w:World}:∀ {l:List LV}{ys:List Value},RL β Z w l ys->M ys=M l
 | [],ys,h=>by simp only [RL] at h;simp [h]
 |x::xs,ys,h=>by
  simp only [RL] at h;obtain ⟨y,zs,rfl,_,h3⟩:=h
  simp [RL.length h3]
def RL.get {β:Nat->Loc}{Z:Nat->Prop}{w:World}:∀ {l:List LV}{ys:List Value}(i:Nat) (x:LV),RL β Z w l ys->l[i]? =ah x->∃y,ys[i]? =ah y/\R β Z w x y
 | [],ys,i,x,_,hx=>by simp at hx
 |x0::xs,ys,i,x,h,hx=>by
  simp only [RL] at h;obtain ⟨y,zs,rfl,h2,h3⟩:=h;cases i with
  |zero=>simp at hx;subst hx;exact ⟨y,AI,h2⟩
  |succ i=>simp at hx;obtain ⟨y',h4,h5⟩:=RL.get i x h3 hx;exact ⟨y',by simpa using h4,h5⟩
def AS.get {n:Nat}:∀ {l:List LV}(i:Nat) (x:LV),AS n l->l[i]? =ah x->okV n x
 | [],i,x,_,hx=>by simp at hx
 |x0::xs,i,x,h,hx=>by
  simp only [AS] at h;cases i with
  |zero=>simp at hx;subst hx;exact h.1
  |succ i=>simp at hx;exact AS.get i x h.2 hx
def RL.CQ {β:Nat->Loc}{Z:Nat->Prop}{w:World}:∀ {l:List LV}{ys:List Value},M ys=M l->(∀(i:Nat) (x:LV),l[i]? =ah x->∃y,ys[i]? =ah y/\R β Z w x y)->RL β Z w l ys
 | [],ys,hl,_=>by simp only [RL];exact MA.1 hl
 |x::xs,[],hl,_=>aI
 |x::xs,y::ys,hl,h=>by
  simp only [RL];refine ⟨y,ys,rfl,?_,RL.CQ lP λi x' hx=>?_⟩
  ·obtain ⟨y',h1,h2⟩:=h 0 x AI;simp at h1;subst h1;exact h2
  ·obtain ⟨y',h1,h2⟩:=h (i+1) x' yQ;exact ⟨y',by simpa using h1,h2⟩
def AS.CQ {n:Nat}:∀ {l:List LV},(∀(i:Nat) (x:LV),l[i]? =ah x->okV n x)->AS n l
 | [],_=>trivial
 |x::xs,h=>by simp only [AS];exact ⟨h 0 x AI,AS.CQ λi x' hx=>h (i+1) x' yQ⟩
inductive T (α:Type) where
 |ok (x:α)
 |br (b:Bool) (t e:T α)
 |req (p:Prop) (t:T α)
 |no
def T.rv {β:Type}(x:LV) (t:T β):T β:=.req (x=x) t
def T.rl {α β:Type}(l:List α) (t:T β):T β:=.req (0=0/\M l=M l) t
def T.bind {α β:Type}(k:α->T β):T α->T β
 | .ok x=>k x
 | .br b t e=> .br b (t.bind k) (e.bind k)
 | .req p t=> .req p (t.bind k)
 | .no=> .no
def T.all {α:Type}(K:α->Prop):T α->Prop
 | .ok x=>K x
 | .br b t e=>(b=U->t.all K)/\(b=X->e.all K)
 | .req p t=>p/\t.all K
 | .no=>False
def T.all_bind {α β:Type}{k:α->T β}{K:β->Prop}:∀ {t:T α},(t.bind k).all K↔t.all (λx=>(k x).all K)
 | .ok _=>Iff.rfl
 | .br b t e=>by simp only [T.bind,T.all];rw [T.all_bind,T.all_bind]
 | .req p t=>by simp only [T.bind,T.all];rw [T.all_bind]
 | .no=>Iff.rfl
def T.BY {α:Type}{K K':α->Prop}(h:∀x,K x->K' x):∀ {t:T α},t.all K->t.all K'
 | .ok _,hh=>h _ hh
 | .br b t e,hh=>⟨λhb=>T.BY h<|hh.1 hb,λhb=>T.BY h<|hh.2 hb⟩
 | .req p t,hh=>⟨hh.1,T.BY h hh.2⟩
 | .no,hh=>hh
def Ip {α:Type}(P:Program):Sem α->Option α
 | .pure a=>ah a
 | .program k=>Ip P (k P)
 | .mark _ k=>Ip P k
 |_=>aj
def bb {α:Type}{P:Program}(w:World):∀ {s:Sem α}{a:α},Ip P s=ah a->s.run P w=.ok a w
 | .pure _,_,h=>by simp only [Ip,Ah] at h;subst h;rfl
 | .program k,_,h=>by simp only [Ip] at h;exact bb w (s:=k P) h
 | .mark _ k,_,h=>by simp only [Ip] at h;exact bb w (s:=k) h
 | .load ..,_,h| .store ..,_,h| .new ..,_,h| .shape ..,_,h| .freeze ..,_,h| .frozen ..,_,h| .getObj ..,_,h| .setObj ..,_,h| .choose ..,_,h| .sys ..,_,h| .halt ..,_,h=>by simp [Ip] at h
inductive Ex where
 |normal
 |exit (n:Nat)
 |ret
inductive LS where
 |ready
 |busy
 |done (x:Ex)
inductive BK where
 |cl
 |vec (e:Ty) (l:List e.D)
 |mp (kd:IntKind) (ks:List Int) (vs:List LV)
 |Cc (ps:Array Tmp) (asg body:Code) (st:LS)
 |st (e:Ty) (l:List e.D)
 |dead
structure AB where
 c:List LV
 t:TypeId
 k:BK
 p:Bool
def AB.Dl (b:AB):Bool:=
 match b.k with
 | .cl=>U
 |_=>X
abbrev B1:=Nat->Option (Nat×(Nat->Value))
abbrev Specs:=FuncId->Option (List LV->T LV)
def pl:LV->Option Value
 | .v x=>ah x
 | .bl b=>ah (.bool b)
 | .ki k n=>ah (Y k n)
 | .fn f []=>ah (.func (.func f) #[] #[])
 |_=>aj
def Az:List LV->Option (List Value)
 | []=>ah []
 |x::xs=>match pl x,Az xs with
  |some y,ah ys=>ah (y::ys)
  |_,_=>aj
def norm:LV->LV
 | .bl b=> .v (.bool b)
 | .ki k n=> .v (Y k n)
 |x=>x
def Jc (l:List LV):LV:=match Az l with|some ys=> .v (.agg ys.toArray) |none=> .agg<|l.map norm
def R1 (l:List LV):LV:=match Az l with|some ys=> .v (.tuple ys.toArray) |none=> .AO<|l.map norm
def Jl:Value->Bool
 | .agg _=>X
 | .tuple _=>X
 |_=>U
def WR:LV->Bool
 | .v x=>Jl x
 | .agg _=>X
 | .AO _=>X
 | .junk=>X
 |_=>U
def CJ:LV->Option (List LV)
 | .v x=>if x.cells.toList.all Jl then ah (x.cells.toList.map .v) else aj
 | .agg l=>if l.all WR then ah l else aj
 | .AO _=>aj
 | .junk=>aj
 |x=>ah [x]
def H3 (P:Program) (t:TypeId):Option Nat:=(P.info? t).map (·.size)
def IG (P:Program) (t:TypeId):Option Value:=(P.info? t).bind (·.zero)
def SC (P:Program) (t:TypeId):Option Bool:=(P.underlying t).map fun| .struct _=>U| .array _ _=>U|_=>X
def AL (G:B1) (F:List LV):Operand->LV
 | .tmp t=>F.getD t .junk
 | .const x=>match x with| .bool b=> .bl b| Y k n=> .ki k n|y=> .v y
 | .global g=>match G g with|some (n,f)=> .xq n (λj=> .v<|f j) |none=> .junk
 | .func f=> .fn f []
def setAt (l:List LV) (off:Nat) (cs:List LV):List LV:=l.take off++cs++l.drop (off+M cs)
def wM (k:IntKind):LV->Option Int
 | .v (.int k' n)=>if k'=k then ah n else aj
 | .ki k' n=>if k'=k then ah n else aj
 |_=>aj
def wN:LV->Option Bool
 | .v (.bool b)=>ah b
 | .bl b=>ah b
 |_=>aj
def wL:LV->Option ByteArray
 | .v (.string s)=>ah s
 |_=>aj
def Jf:(a b:Ty)->Option (PLift<|a=b)
 | .int k,.int k'=>if h:k=k' then ah ⟨VZ⟩ else aj
 | .bool,.bool=>ah ⟨rfl⟩
 | .str,.str=>ah ⟨rfl⟩
 | .sl x,.sl y=>match Jf x y with
  |some ⟨h⟩=>ah ⟨VZ⟩
  |none=>aj
 | .pair x y,.pair x' y'=>match Jf x x',Jf y y' with
  |some ⟨h⟩,ah ⟨h'⟩=>ah ⟨by rw [h,h']⟩
  |_,_=>aj
 |_,_=>aj
def KX {a b:Ty}(h:a=b) (l:List a.D):List b.D:=h▸l
def N0 (e:Ty):LV->Option (List e.D)
 | .xl e' l=>match Jf e' e with
  |some ⟨h⟩=>ah (KX h l)
  |none=>aj
 | .v (.slice aj 0 0)=>ah []
 |_=>aj
def hd1 {α:Type}(f:LV->Option α):List LV->Option α
 | [x]=>f x
 |_=>aj
def Ji:(t:Ty)->List LV->Option t.D
 | .int k,l=>hd1 (wM k) l
 | .bool,l=>hd1 wN l
 | .str,l=>hd1 wL l
 | .sl e,l=>hd1 (N0 e) l
 | .pair a b,l=>match Ji a (l.take a.n),Ji b (l.drop a.n) with
  |some x,ah y=>ah (x,y)
  |_,_=>aj
def FH (P:Program) (H:List AB) (t:TypeId) (x:LV):T LV:=
 match SC P t,H3 P t with
 | some U,ah n=>
  match x with
  | .own k off=>match H[k]? with
   |some b=>if b.Dl=U/\off+n<=M b.c then .ok (Jc<|(b.c.drop off).take n) else .no
   |none=> .no
  | .xq m f=>if n<=m then .ok (Jc<|(au n).map f) else .no
  | .op k es i j=>match H[k]? with
   |some ⟨_,_,.vec e l,_⟩=>if e.n=es/\j+n<=es then .req (i<M l) (.ok<|Jc<|((Bn e<|l.getD i e.dflt).drop j).take n) else .no
   |_=> .no
  |_=> .no
 | some X,_=>
  match x with
  | .own k off=>match H[k]? with
   |some b=>if b.Dl=U then (match b.c[off]? with
    |some y=> .ok y
    |none=> .no) else .no
   |none=> .no
  | .xq m f=>if 0<m then .ok (f 0) else .no
  | .op k es i j=>match H[k]? with
   |some ⟨_,_,.vec e l,_⟩=>if e.n=es then .req (i<M l) (match (Bn e<|l.getD i e.dflt)[j]? with
    |some y=> .ok y
    |none=> .no) else .no
   |_=> .no
  |_=> .no
 |_,_=> .no
def TS (P:Program) (H:List AB) (t:TypeId) (x y:LV):T (List AB):=
 match H3 P t,CJ y with
 | some n,ah cs=>match x with
  | .own k off=>match H[k]? with
   |some b=>if b.Dl=U/\b.p=X/\M cs=n/\off+n<=M b.c then .ok (H.set k ⟨setAt b.c off cs,b.t,b.k,b.p⟩) else .no
   |none=> .no
  | .op k es i j=>match H[k]? with
   |some ⟨_,bt,.vec e l,X⟩=>if e.n=es/\M cs=n/\j+n<=es then .req (i<M l) (match Ji e (setAt (Bn e<|l.getD i e.dflt) j cs) with
    |some d=> .ok (H.set k ⟨[],bt,.vec e<|l.set i d,X⟩)
    |none=> .no) else .no
   |_=> .no
  |_=> .no
 |_,_=> .no
def Wn (P:Program) (s:TypeId) (x:LV) (i:Nat):T LV:=
 match P.underlying s with
 | some (.struct fs)=>match fs[i]? with
  | some f=>match H3 P f.type with
   |some (m+1)=>match x with
    | .own k off=> .ok (.own k<|off+f.offset)
    | .op k es i j=> .ok (.op k es i<|j+f.offset)
    | .xq n g=>if f.offset+(m+1)<=n then .ok (.xq (n-f.offset) λj=>g<|f.offset+j) else .no
    |_=> .no
   |_=> .no
  |none=> .no
 |_=> .no
def aBY (P:Program) (t:TypeId) (l:List LV) (i:Nat):T LV:=
 match P.underlying t with
 | some (.struct fs)=>match fs[i]? with
  | some f=>match SC P f.type,H3 P f.type with
   |some U,ah n=>if f.offset+n<=M l then .ok (Jc<|(l.drop f.offset).take n) else .no
   |some X,_=>match l[f.offset]? with
    |some y=> .ok y
    |none=> .no
   |_,_=> .no
  |none=> .no
 |_=> .no
def wQ:LV->Option (List LV)
 | .agg l=>ah l
 | .v (.agg ys)=>ah (ys.toList.map .v)
 |_=>aj
def aBS (P:Program) (t:TypeId) (l:List LV) (i:LV):T LV:=
 match P.underlying t,i with
 |some (.array len e),.ki _ j=>match SC P e,H3 P e,l[j.toNat]? with
  |some X,ah 1,ah y=>if 0<=j/\j<(len:Int) then .ok y else .no
  |_,_,_=> .no
 |_,_=> .no
def chain (n:Int) (g:Nat->LV):Nat->Nat->T LV
 |0,_=> .no
 |m+1,j=> .br (n==(j:Int)) (.ok<|g j)<|chain n g m<|j+1
def Ur:LV->Bool
 | .ki _ _=>U
 |_=>X
def addN:Nat->Nat->Nat
 |0,n=>n
 |m+1,n=>m+1+n
def atW:∀(m n:Nat),addN m n=m+n
 |0,n=>by simp [addN]
 |m+1,n=>rfl
def TU (P:Program) (t:TypeId) (x:LV) (c:Bool) (i:LV):T LV:=
 match pl i with
 | some (.int _ n)=>match P.underlying t with
  | some (.array len e)=>match H3 P e with
   |some (m+1)=>match x with
    | .op k es i j=>if c then (if 0<=n/\n<len then .ok (.op k es i<|j+n.toNat*(m+1)) else .no) else chain n (λq=> .op k es i<|j+q*(m+1)) len 0
    | .own k off=>if c then (if 0<=n/\n<len then .ok (.own k<|off+n.toNat*(m+1)) else .no) else chain n (λj=> .own k<|off+j*(m+1)) len 0
    | .xq q g=>if len*(m+1)<=q then (if c then (if 0<=n/\n<len then .ok (.xq (m+1) λj=>g<|n.toNat*(m+1)+j) else .no) else if len=3 then chain n (λi=> .xq (m+1) λj=>g<|i*(m+1)+j) len 0 else .req (0<=n/\n<(len:Int)) (.ok<|.xq (m+1) λj=>g<|n.toNat*(m+1)+j)) else .no
    |_=> .no
   |_=> .no
  |some (.slice e)=>match H3 P e,x with
   |some (m+1),.xl e' l=>if e'.n=m+1 then .req (0<=n/\n<(M l:Int)) (.ok<|.xq (m+1) λj=>(Bn e'<|gx l n).getD j .junk) else .no
   |some (m+1),.os k es off len=>if es=m+1 then .req (0<=n/\n<(len:Int)) (.ok<|.op k es (addN off n.toNat) 0) else .no
   |some (m+1),.oc k es off len cp=>if es=m+1 then (if c then (if 0<=n/\n<(len:Int) then .ok (.own k<|(off+n.toNat)*(m+1)) else .no) else chain n (λj=> .own k<|(off+j)*(m+1)) len 0) else .no
   |_,_=> .no
  |_=> .no
 |_=> .no
def KV (place:Nat->Option (Nat×Nat)) (cells:List LV):List (Nat×LV)->Option (List LV)
 | []=>ah cells
 |(i,x)::rest=>match place i,CJ x with
  |some (off,size),ah cs=>if M cs=size/\off+size<=M cells then KV place (setAt cells off cs) rest else aj
  |_,_=>aj
def aOB (P:Program) (t:TypeId):Option (Nat->Option (Nat×Nat)):=
 match P.underlying t with
 |some (.struct fields)=>(fields.toList.mapM λf=>(P.info? f.type).map λi=>(f.offset,i.size)).map λps=>λi=>ps.toArray[i]?
 |some (.array _ e)=>(P.info? e).map λie=>λi=>ah (i*ie.size,ie.size)
 |_=>aj
def NZ (P:Program) (t:TypeId) (parts:List<|Nat×LV):T LV:=
 match IG P t,aOB P t with
 |some z,ah pf=>match KV pf (z.cells.toList.map .v) parts with
  |some cs=> .ok (if parts.any (λq=>Ur q.2) then .agg cs else Jc cs)
  |none=> .no
 |_,_=> .no
def Hh (G:B1) (F:List LV):Operand->LV
 | .const x=>norm (AL G F<|.const x)
 |o=>AL G F o
def Bx (H:List AB):Nat->LV->LV
 |0,_=> .junk
 |d+1,.own k off=>match H[k]? with
  |some b=>if b.Dl then .xq (M b.c-off) (λj=>Bx H d<|b.c.getD (off+j) .junk) else .junk
  |none=> .junk
 |_+1,.os k es off n=>match H[k]? with
  |some ⟨_,_,.vec e l,_⟩=>if e.n=es then .xl e ((l.drop off).take n) else .junk
  |_=> .junk
 |_+1,.op k es i j=>match H[k]? with
  |some ⟨_,_,.vec e l,_⟩=>if e.n=es then .xq (es-j) (λq=>(Bn e<|l.getD i e.dflt).getD (j+q) .junk) else .junk
  |_=> .junk
 |d+1,.om k=>match H[k]? with
  |some ⟨_,_,.mp kd ks vs,_⟩=> .mp kd ks (vs.map<|Bx H d)
  |_=> .junk
 |_+1,.v x=> .v x
 |_+1,.bl x=> .v (.bool x)
 |_+1,.ki k n=> .v (Y k n)
 |d+1,.agg l=> .agg (l.map<|Bx H d)
 |d+1,.AO l=> .AO (l.map<|Bx H d)
 |d+1,.fn f l=> .fn f (l.map<|Bx H d)
 |d+1,.fb f l=> .fb f (l.map<|Bx H d)
 |_+1,.xq n f=> .xq n f
 |_+1,.xl e l=> .xl e l
 |d+1,.mp kd ks vs=> .mp kd ks (vs.map<|Bx H d)
 |_+1,.oc ..=> .junk
 |_+1,.CK _=> .junk
 |_+1,.junk=> .junk
def G5 {α:Type}(g:α->T Unit):List α->T Unit
 | []=> .ok ()
 |x::xs=>(g x).bind λ_=>G5 g xs
def ED (H:List AB):Nat->LV->T Unit
 |0,_=> .ok ()
 |d+1,.own k _=>match H[k]? with
  |some b=>G5 (ED H d) b.c
  |none=> .ok ()
 |_+1,.os k _ off n=>match H[k]? with
  |some ⟨_,_,.vec _ l,_⟩=> .req (off+n<=M l) (.ok ())
  |_=> .ok ()
 |_+1,.op k _ i _=>match H[k]? with
  |some ⟨_,_,.vec _ l,_⟩=> .req (i<M l) (.ok ())
  |_=> .ok ()
 |d+1,.om k=>match H[k]? with
  |some ⟨_,_,.mp _ _ vs,_⟩=>G5 (ED H d) vs
  |_=> .ok ()
 |d+1,.agg l=>G5 (ED H d) l
 |d+1,.AO l=>G5 (ED H d) l
 |d+1,.fn _ l=>G5 (ED H d) l
 |d+1,.fb _ l=>G5 (ED H d) l
 |d+1,.mp _ _ l=>G5 (ED H d) l
 |_+1,_=> .ok ()
mutual
def noOwn:LV->Bool
 | .own _ _=>X
 | .os ..=>X
 | .op ..=>X
 | .om _=>X
 | .oc ..=>X
 | .CK _=>X
 | .agg l=>noOwnL l
 | .AO l=>noOwnL l
 | .fn _ l=>noOwnL l
 | .fb _ l=>noOwnL l
 | .mp _ _ l=>noOwnL l
 |_=>U
def noOwnL:List LV->Bool
 | []=>U
 |x::xs=>noOwn x&&noOwnL xs
end
/-Which own blocks a value names. -/
mutual
def owns:LV->List Nat
 | .own k _=>[k]
 | .os k _ _ _=>[k]
 | .op k _ _ _=>[k]
 | .om k=>[k]
 | .oc k _ _ _ _=>[k]
 | .CK k=>[k]
 | .agg l=>ownsL l
 | .AO l=>ownsL l
 | .fn _ l=>ownsL l
 | .fb _ l=>ownsL l
 | .mp _ _ l=>ownsL l
 |_=>[]
def ownsL:List LV->List Nat
 | []=>[]
 |x::xs=>owns x++ownsL xs
end
def AB.owns (b:AB):List Nat:=ownsL b.c++(match b.k with| .mp _ _ vs=>ownsL vs|_=>[])
def reach (H:List AB):Nat->List Nat->List Nat->List Nat
 |0,_,acc=>acc
 |_+1,[],acc=>acc
 |d+1,k::ks,acc=>if acc.contains k then reach H d ks acc else reach H d (ks++(match H[k]? with|some b=>b.owns|none=>[])) (acc++[k])
def KE (H:List AB) (ks:List Nat) (l:List LV):Bool:=
 (ownsL l).all ks.contains&&ks.all (λk=>match H[k]? with|some b=>b.owns.all ks.contains|none=>X)
def FZ (ks:List Nat):Nat->List AB->List AB
 |_,[]=>[]
 |k,b::bs=>(if ks.contains k then ⟨b.c,b.t,b.k,U⟩ else b)::FZ ks (k+1) bs
def S7 (x:LV):Bool:=(pl x).isSome
def QS:T LV->T LV
 | .ok x=>if S7 x then .ok x else .no
 | .br b t e=> .br b (QS t) (QS e)
 | .req p t=> .req p (QS t)
 | .no=> .no
def gg (c a b:LV):T LV:=
 match c with
 | .bl U=> .ok a
 | .bl X=> .ok b
 | .v (.bool g)=>match norm a,norm b with
  | .v (Y k n),.v (.int k' m)=>if k=k' then .ok (.v<|Y k (if g then n else m)) else .no
  | .v (.bool p),.v (.bool q)=> .ok (.v<|.bool (if g then p else q))
  |_,_=> .br g (.ok a) (.ok b)
 |_=> .no
def Uz:List Bool->Bool
 | []=>U
 | [p]=>p
 |p::ps=>p&&Uz ps
mutual
def eqV (P:Program):Nat->TypeId->Value->Value->Option Bool
 |0,_,_,_=>aj
 |d+1,t,x,y=>match P.underlying t,x,y with
  |some (.int _),Y k a,.int k' b=>if k=k' then ah (a==b) else aj
  |some .bool,.bool a,.bool b=>ah (a==b)
  |some .string,.string a,.string b=>ah (a==b)
  |some (.struct fs),.agg xs,.agg ys=>if P.stoodInHeld t then aj else (eqFs P d xs ys fs.toList).map Uz
  |_,_,_=>aj
def eqFs (P:Program):Nat->Array Value->Array Value->List Field->Option (List Bool)
 |_,_,_,[]=>ah []
 |0,_,_,_::_=>aj
 | d+1,xs,ys,f::fs=>if f.name= "_" then aj else match Ip P (part f.type xs f.offset),Ip P (part f.type ys f.offset) with
  |some a,ah b=>match eqV P d f.type a b,eqFs P d xs ys fs with
   |some p,ah ps=>ah (p::ps)
   |_,_=>aj
  |_,_=>aj
end
def aQd:BinOp->Option Bool
 | .eql=>ah X
 | .neq=>ah U
 |_=>aj
def QY (P:Program) (o:Op) (e:Operand->Value):Option (Option Value):=
 match o with
 | .binOp op t x y _=>match aQd op with
  | some neg=>match e x,e y with
   | .agg xs,.agg ys=>ah (match Ip P (eqGuard op t x y (.agg xs)<|.agg ys),eqV P 100 t (.agg xs) (.agg ys) with
    |some _,ah b=>ah (.bool (match neg with|true=>!b|false=>b))
    |_,_=>aj)
   |_,_=>aj
  |none=>aj
 |_=>aj
def OJ (P:Program) (o:Oper) (e:Operand->Value):Option Value:=
 match QY P o.op e with
 |some r=>r
 |none=>match Ip P (execOp e o) with
  |some (.value y)=>ah y
  |_=>aj
def aQ:LV->Bool
 | .ki _ _=>U
 | .bl _=>U
 | .v (.slice aj _ _)=>U
 |_=>X
def kn:Value->LV
 | Y k n=> .ki k n
 | .bool b=> .bl b
 |y=> .v y
def DX (P:Program) (G:B1) (F:List LV) (o:Oper):T LV:=
 if o.op.operands.toList.all (λx=>S7<|AL G F x) then
  match OJ P o (λx=>(pl<|AL G F x).getD undef) with
  |some y=> .ok (if o.op.operands.toList.all (λx=>aQ<|AL G F x) then kn y else .v y)
  |none=> .no
 else .no
def Uv (r:TypeId->Option Ty):List TypeId->Option Ty
 | []=>aj
 | [t]=>r t
 |t::ts=>match r t,Uv r ts with
  |some a,ah b=>ah (.pair a b)
  |_,_=>aj
def IL (P:Program):Nat->TypeId->Option Ty
 |0,_=>aj
 |m+1,t=>match P.underlying t with
  |some (.int k)=>ah (.int k)
  |some .bool=>ah .bool
  |some .string=>ah .str
  |some (.struct fs)=>Uv (IL P m) (fs.toList.map (·.type))
  |some (.array n e)=>Uv (IL P m) (aq n e)
  |some (.slice e)=>(IL P m e).map .sl
  |_=>aj
def aT (e:Ty):Nat->List LV->Option (List e.D)
 |0,_=>ah []
 |n+1,cs=>match Ji e (cs.take e.n),aT e n (cs.drop e.n) with
  |some d,ah r=>ah (d::r)
  |_,_=>aj
def Li (P:Program) (t:TypeId) (len:Nat) (parts:List<|Nat×LV):T LV:=
 match P.underlying t with
 |some (.slice e)=>match IL P 8 e,H3 P e,IG P e with
  | some ty,ah m,ah z=>if ty.n=m/\z.cells.size=m/\0<len*m/\len*m<=2^24 then
    (match KV (λi=>ah (i*m,m)) ((au<|len*m).map λi=> .v<|z.cells[i%z.cells.size]!) parts with
    |some cs=>match aT ty len cs with
     |some l=> .ok (.xl ty l)
     |none=> .no
    |none=> .no) else .no
  |_,_,_=> .no
 |_=> .no
def cY (P:Program) (t:TypeId):Bool:=
 match P.underlying t with
 |some (.slice e)=>(IL P 8 e).isSome
 |_=>X
def mA (P:Program) (H:List AB) (t:TypeId) (len:Nat) (parts:List<|Nat×LV):T (LV×List AB):=
 match P.underlying t with
 |some (.slice e)=>match H3 P e,IG P e with
  | some m,ah z=>if z.cells.size=m/\0<len*m/\len*m<=2^24 then
    (match KV (λi=>ah (i*m,m)) ((au<|len*m).map λi=> .v<|z.cells[i%z.cells.size]!) parts with
    |some cs=> .ok (.oc (M H) m 0 len len,H++[⟨cs,e,.cl,X⟩])
    |none=> .no) else .no
  |_,_=> .no
 |_=> .no
def m9 (P:Program) (H:List AB) (t:TypeId) (len:Nat) (parts:List<|Nat×LV):T (LV×List AB):=
 if KE H (reach H 64 (ownsL<|parts.map (·.2)) []) (parts.map (·.2)) then
  ((G5 (ED H 6)<|parts.map (·.2)).bind λ_=>Li P t len<|parts.map λq=>(q.1,Bx H 6 q.2)).bind λy=> .ok (y,FZ (reach H 64 (ownsL<|parts.map (·.2)) []) 0 H)
 else .no
def FF (H:List AB) (e:Ty):LV->T (List e.D)
 | .os k es off n=>match H[k]? with
  |some ⟨_,_,.vec e' l,_⟩=>if e'.n=es then (match Jf e' e with
   |some ⟨h⟩=> .req (off+n<=M l) (.ok<|KX h<|(l.drop off).take n)
   |none=> .no) else .no
  |_=> .no
 |x=>match N0 e x with
  |some l=> .ok l
  |none=> .no
def aRj (P:Program) (t:TypeId):Option Nat:=(P.info? t).map (·.bytes)
def PI (P:Program) (t:TypeId):Option (TypeId×Ty×Nat×Nat):=
 match P.underlying t with
 |some (.slice e)=>match IL P 8 e,H3 P e,aRj P e with
  |some ty,ah m,ah F4=>if ty.n=m/\0<m then ah (e,ty,m,F4) else aj
  |_,_,_=>aj
 |_=>aj
def aP (P:Program) (H:List AB) (t:TypeId) (len:Nat) (parts:List<|Nat×LV):T (LV×List AB):=
 if KE H (reach H 64 (ownsL<|parts.map (·.2)) []) (parts.map (·.2)) then
  ((G5 (ED H 6)<|parts.map (·.2)).bind λ_=>Li P t len<|parts.map λq=>(q.1,Bx H 6 q.2)).bind λy=>match P.underlying t,y with
   |some (.slice e),.xl ty l=> .ok (.os (M H) ty.n 0 len,FZ (reach H 64 (ownsL<|parts.map (·.2)) []) 0 H++[⟨[],e,.vec ty l,X⟩])
   |_,_=> .no
 else .no
def aOL (Γ:Specs) (t:TypeId):Bool:=(Γ<|1000000+t).isSome
def U8 (P:Program) (H:List AB) (t:TypeId) (n c:LV):T (LV×List AB):=
 match PI P t,pl n,pl c with
 | some (e,ty,m,F4),ah (Y J n),ah (Y J c)=>match IG P e with
  |some z=>match Ji ty (z.cells.toList.map .v) with
   |some d=>if z.cells.size=m then .req (0<=n/\n<=c/\F4*c<=2^48/\c<2^63) (.ok (.os (M H) m 0 n.toNat,H++[⟨[],e,.vec ty<|aq n.toNat d,X⟩])) else .no
   |none=> .no
  |none=> .no
 |_,_,_=> .no
def Wp (P:Program) (H:List AB) (t:TypeId):T (LV×List AB):=
 match PI P t with
 |some (e,ty,m,_)=> .ok (.os (M H) m 0 0,H++[⟨[],e,.vec ty [],X⟩])
 |none=> .no
def LF (P:Program) (H:List AB) (t tx:TypeId) (x y:LV):T (LV×List AB):=
 match PI P t with
 | some (e,ty,m,F4)=>match P.underlying tx,IG P e with
  | some (.slice _),ah z=>if z.cells.size=m then (FF H ty y).bind (λq=>match x with
    | .v (.slice aj 0 0)=> .req ((M q:Int)*F4<=2^47/\(M q:Int)<2^62) (.ok (.os (M H) m 0<|M q,H++[⟨[],e,.vec ty q,X⟩]))
    | .os k es off n=>match H[k]? with
     |some ⟨_,bt,.vec e' l,X⟩=>match Jf e' ty with
      | some ⟨h⟩=>if es=m/\bt=e then .req (off+n=M l/\((n+M q:Nat):Int)*F4<=2^47/\((n+M q:Nat):Int)<2^62)
        (.ok (.os (M H) m 0<|n+M q,H.set k ⟨[],e,.dead,X⟩++[⟨[],e,.vec ty<|KX h (l.drop off)++q,X⟩])) else .no
      |none=> .no
     |_=> .no
    |_=> .no) else .no
  |_,_=> .no
 |none=> .no
def BE {α:Type}(q l:List α):List α:=q++l.drop (M q)
def XU (P:Program) (H:List AB) (t tx:TypeId) (x y:LV):T (LV×List AB):=
 match PI P t,P.underlying tx with
 | some (_,ty,m,_),ah (.slice _)=>match x with
  | .os k es 0 n=>match H[k]? with
   |some ⟨c,bt,.vec e' l,X⟩=>match Jf e' ty with
    |some ⟨h⟩=>if es=m then (FF H ty y).bind λq=> .req (n=M l/\M q<=n) (.ok (.v<|Y J (M q:Int),H.set k ⟨c,bt,.vec ty<|BE q<|KX h l,X⟩)) else .no
    |none=> .no
   |_=> .no
  |_=> .no
 |_,_=> .no
def s7 (P:Program) (t:TypeId) (x:LV) (lo hi:Option LV):T LV:=
 match P.underlying t with
 | some (.slice e)=>match H3 P e with
  | some (m+1)=>
   let b (o:Option LV) (d:Int):Option Int:=match o with
    |none=>ah d
    |some y=>match pl y with
     |some (.int _ n)=>ah n
     |_=>aj
   match x with
   | .xl ty l=>match b lo 0,b hi (M l:Int) with
    |some i,ah j=>if ty.n=m+1 then .req (0<=i/\i<=j/\j<=(M l:Int)) (.ok<|.xl ty<|(l.drop i.toNat).take<|j.toNat-i.toNat) else .no
    |_,_=> .no
   | .os k es off n=>match b lo 0,b hi (n:Int) with
    |some i,ah j=>if es=m+1 then .req (0<=i/\i<=j/\j<=(n:Int)) (.ok<|.os k es (off+i.toNat)<|j.toNat-i.toNat) else .no
    |_,_=> .no
   |_=> .no
  |_=> .no
 |_=> .no
def q9 (P:Program) (t:TypeId) (x:LV) (lo:Option LV) (hi mx:LV):T LV:=
 match P.underlying t with
 | some (.slice e)=>match H3 P e with
  | some (m+1)=>match x with
   | .xl ty l=>match (match lo with|none=>ah 0|some y=>match pl y with|some (.int _ n)=>ah n|_=>none:Option Int),pl hi,pl mx with
    |some i,ah (.int _ j),ah (.int _ q)=>if ty.n=m+1 then .req (0<=i/\i<=j/\j<=(M l:Int)/\q=j) (.ok<|.xl ty<|(l.drop i.toNat).take<|j.toNat-i.toNat) else .no
    |_,_,_=> .no
   |_=> .no
  |_=> .no
 |_=> .no
def cC (kd:IntKind) (n:Int) (z:Value):List Int->List LV->T LV
 |k::ks,v::vs=> .br (n==k) (.ok v) (cC kd n z ks vs)
 |_,_=> .ok<|.v z
def aBU:(e:Ty)->e.D->Value
 | .int k,n=> Y k n
 | .str,s=> .string s
 | .bool,b=> .bool b
 | .sl _,_=>undef
 | .pair _ _,_=>undef
def OD:(e:Ty)->Value->Option e.D
 | .int k,v=>match v with
  | .int k' n=>if k'=k then ah n else aj
  |_=>aj
 | .str,v=>match v with
  | .string s=>ah s
  |_=>aj
 |_,_=>aj
def lu:(e:Ty)->e.D->List e.D->Bool
 | .int _,x,l=>List.contains (α:=Int) l x
 | .str,x,l=>List.contains (α:=ByteArray) l x
 |_,_,_=>X
def aK (P:Program) (t:TypeId):Option Ty:=
 match P.underlying t with
 |some (.map kt et)=>match P.underlying et,P.underlying kt,IG P et with
  |some .bool,ah (.int k),ah (.bool X)=>ah (.int k)
  |some .bool,ah .string,ah (.bool X)=>ah .str
  |_,_,_=>aj
 |_=>aj
def aaw (P:Program) (t:TypeId) (e:Ty) (l:List e.D) (i:LV):T LV:=
 match aK P t,pl i with
 |some e',ah v=>match Jf e' e,OD e v with
  |some _,ah d=> .ok (.v<|.bool<|lu e d l)
  |_,_=> .no
 |_,_=> .no
def U9 (P:Program) (H:List AB) (t:TypeId) (x i:LV):T LV:=
 match P.underlying t with
 | some (.map kt et)=>match P.underlying kt,IG P et,pl i with
  | some (.int kd),ah z,ah (.int kd' n)=>if kd'=kd/\Jl z=U then (match x with
   | .mp kd2 ks vs=>if kd2=kd/\M ks=M vs then cC kd n z ks vs else .no
   | .om k=>match H[k]? with
    |some ⟨_,_,.mp kd2 ks vs,_⟩=>if kd2=kd/\M ks=M vs then cC kd n z ks vs else .no
    |_=> .no
   |_=> .no) else .no
  |_,_,_=> .no
 |_=> .no
def bn (kd:IntKind) (n:Int) (z:Value):List Int->List LV->T LV
 |k::ks,v::vs=> .br (n==k) (.ok<|.AO [norm v,.bl U]) (bn kd n z ks vs)
 |_,_=> .ok<|.AO [.v z,.bl X]
def Wz (P:Program) (H:List AB) (t:TypeId) (x i:LV):T LV:=
 match P.underlying t with
 | some (.map kt et)=>match P.underlying kt,IG P et,pl i with
  | some (.int kd),ah z,ah (.int kd' n)=>if kd'=kd/\Jl z=U then (match x with
   | .mp kd2 ks vs=>if kd2=kd/\M ks=M vs then bn kd n z ks vs else .no
   | .om k=>match H[k]? with
    |some ⟨_,_,.mp kd2 ks vs,_⟩=>if kd2=kd/\M ks=M vs then bn kd n z ks vs else .no
    |_=> .no
   |_=> .no) else .no
  |_,_,_=> .no
 |_=> .no
def XJ (P:Program) (H:List AB) (t:TypeId) (x i:LV):T LV:=
 match x with
 | .om k=>match H[k]? with
  |some ⟨_,_,.st e l,_⟩=>aaw P t e l i
  |_=>U9 P H t x i
 |_=>U9 P H t x i
def Ut (P:Program) (H:List AB) (t:TypeId) (x i y:LV):T (List AB):=
 match P.underlying t with
 | some (.map kt _)=>match P.underlying kt,pl i,x with
  |some (.int kd),ah (.int kd' n),.om k=>match H[k]? with
   |some ⟨_,bt,.mp kd2 ks vs,X⟩=>if kd'=kd/\kd2=kd/\M ks=M vs/\ks.contains n=X then .ok (H.set k ⟨[],bt,.mp kd (ks++[n])<|vs++[y],X⟩) else .no
   |_=> .no
  |_,_,_=> .no
 |_=> .no
def insL (P:Program) (H:List AB) (t:TypeId) (x i y:LV):T (List AB):=
 match x with
 | .om k=>match H[k]? with
  | some ⟨_,bt,.st e l,X⟩=>match aK P t,pl i,y with
   |some e',ah v,.bl U=>match Jf e' e,OD e v with
    |some _,ah d=> .req (lu e d l=X) (.ok<|H.set k ⟨[],bt,.st e<|l++[d],X⟩)
    |_,_=> .no
   |_,_,_=> .no
  |_=>Ut P H t x i y
 |_=>Ut P H t x i y
def kindOf (P:Program) (t:TypeId):Option IntKind:=
 match P.underlying t with
 |some (.map kt _)=>match P.underlying kt with
  |some (.int kd)=>ah kd
  |_=>aj
 |_=>aj
def LC (P:Program):Nat->TypeId->Bool
 |0,_=>X
 |m+1,t=>match P.underlying t with
  |some (.int _) |some .bool|some .string=>U
  |some (.struct fs)=>fs.toList.all (λf=>LC P m f.type)
  |some (.array _ e)=>LC P m e
  |some (.tuple ts)=>ts.toList.all (LC P m)
  |_=>X
def Jn (s:ByteArray) (n:Int):Int:=(((s[n.toNat]?).getD 0).toNat:Int)
def LM (P:Program) (Γ:Specs) (H:List AB) (o:Oper) (g:FuncId) (l:List LV):T (LV×List AB):=
 match P.funcs[g]? with
 | some fn=>if fn.body.isSome&&!(fn.name== "runtime.NumGoroutine") then
   match Γ g with
   |some S=>
    if noOwnL l then (S l).bind λy=> .ok (y,H)
    else if LC P 8 o.type then ((G5 (ED H 6) l).bind λ_=>QS<|S<|l.map<|Bx H 6).bind λy=> .ok (y,H)
    else if KE H (reach H 64 (ownsL l) []) l then ((G5 (ED H 6) l).bind λ_=>S<|l.map<|Bx H 6).bind λy=> .ok (y,FZ (reach H 64 (ownsL l) []) 0 H) else .no
   |none=> .no
  else .no
 |none=> .no
def gQ (P:Program) (x:LV) (name:String):Option (FuncId×Value):=
 match pl x with
 |some (.iface t v)=>Ip P (method (P.types.size+Made.depth) t v name)
 |_=>aj
def Aw (P:Program) (G:B1) (Γ:Specs) (F:List LV) (H:List AB) (o:Oper):T (LV×List AB):=
 match o.op with
 | .select _ _=> .no
 | .move x=> .ok (AL G F x,H)
 | .assign x=> .ok (AL G F x,H)
 | .pick c a b=>(gg (AL G F c) (AL G F a)<|AL G F b).bind λy=> .ok (y,H)
 | .alloc t=>match IG P t with
  |some z=>match CJ (.v z) with
   |some cs=> .ok (.own (M H) 0,H++[⟨cs,t,.cl,X⟩])
   |none=> .no
  |none=> .no
 | .box t x=>match CJ (AL G F x) with
  |some cs=> .ok (.own (M H) 0,H++[⟨cs,t,.cl,X⟩])
  |none=> .no
 | .load t x=>(FH P H t<|AL G F x).bind λy=> .ok (y,H)
 | .store t x y=>(TS P H t (AL G F x)<|AL G F y).bind λH'=> .ok (.v undef,H')
 | .fieldAddr s x i=>(Wn P s (AL G F x) i).bind λy=> .ok (y,H)
 | .indexAddr t x i=>(TU P t (AL G F x) (Ur<|AL G F i)<|AL G F i).bind λy=> .ok (y,H)
 | .build t parts=>(NZ P t<|parts.toList.map λq=>(q.1,Hh G F q.2)).bind λy=> .ok (y,H)
 | .buildSlice t len parts=>if len=0 then (if parts.toList.isEmpty then Wp P H t else .no) else if cY P t then (if aOL Γ t then aP P H t len (parts.toList.map λq=>(q.1,AL G F q.2)) else if noOwnL ((parts.toList.map λq=>(q.1,AL G F q.2)).map (·.2)) then (Li P t len<|parts.toList.map λq=>(q.1,AL G F q.2)).bind λy=> .ok (y,H) else m9 P H t len (parts.toList.map λq=>(q.1,AL G F q.2))) else mA P H t len (parts.toList.map λq=>(q.1,AL G F q.2))
 | .makeSlice t n c=>U8 P H t (AL G F n) (AL G F c)
 | .slice t x lo hi aj=>match AL G F x with
  | .v _=>(DX P G F o).bind λy=> .ok (y,H)
  |_=>(s7 P t (AL G F x) (lo.map<|AL G F)<|hi.map<|AL G F).bind λy=> .ok (y,H)
 | .slice t x lo (ah hi) (ah mx)=>match AL G F x with
  | .v _=>(DX P G F o).bind λy=> .ok (y,H)
  |_=>(q9 P t (AL G F x) (lo.map<|AL G F) (AL G F hi)<|AL G F mx).bind λy=> .ok (y,H)
 | .makeMap t aj=>match aK P t with
  |some e=> .ok (.om<|M H,H++[⟨[],t,.st e [],X⟩])
  |none=>match kindOf P t with
   |some kd=> .ok (.om<|M H,H++[⟨[],t,.mp kd [] [],X⟩])
   |none=> .no
 | .insert t m i x=>(insL P H t (AL G F m) (AL G F i)<|AL G F x).bind λH'=> .ok (.v undef,H')
 | .mapUpdate t m i x=>(insL P H t (AL G F m) (AL G F i)<|AL G F x).bind λH'=> .ok (.v undef,H')
 | .lookup t x i X=>(XJ P H t (AL G F x)<|AL G F i).bind λy=> .ok (y,H)
 | .lookup t x i U=>match AL G F x with
  | .v _=>(DX P G F o).bind λy=> .ok (y,H)
  |_=>(Wz P H t (AL G F x)<|AL G F i).bind λy=> .ok (y,H)
 | .extract x i=>match AL G F x with
  | .AO l=>match l[i]? with
   |some y=> .ok (y,H)
   |none=> .no
  |_=>(DX P G F o).bind λy=> .ok (y,H)
 | .field t x i=>match AL G F x with
  | .agg l=>(aBY P t l i).bind λy=> .ok (y,H)
  |_=>(DX P G F o).bind λy=> .ok (y,H)
 | .makeFunc (.func f) first cap=>if first.toList.isEmpty then .ok (.fn f<|cap.toList.map<|AL G F,H) else if cap.toList.isEmpty then .ok (.fb f<|first.toList.map<|AL G F,H) else .no
 | .nilCheck x=>match AL G F x with
  | .own k off=> .ok (.own k off,H)
  | .op k es i j=> .ok (.op k es i j,H)
  | .xq n f=> .ok (.xq n f,H)
  | .fn f l=> .ok (.fn f l,H)
  | .fb f l=> .ok (.fb f l,H)
  |_=>(DX P G F o).bind λy=> .ok (y,H)
 | .binOp .quo t x y _=>match pl (AL G F x),pl (AL G F y) with
  |some (Y k n),ah (.int k' m)=>if k=k' then .req (m≠0) (.ok (.v<|Y k<|k.wrap<|n.tdiv m,H)) else .no
  |_,_=> .no
 | .binOp .rem t x y _=>match pl (AL G F x),pl (AL G F y) with
  |some (Y k n),ah (.int k' m)=>if k=k' then .req (m≠0) (.ok (.v<|Y k<|n.tmod m,H)) else .no
  |_,_=> .no
 | .binOp .shl t x y _=>if Ur (AL G F y) then (DX P G F o).bind λy=> .ok (y,H) else match pl (AL G F x),pl (AL G F y) with
  |some (Y k n),ah (.int _ m)=> .req (0<=m) (.ok (.v<|Y k<|k.wrap<|n*2^(min m.toNat k.bits),H))
  |_,_=> .no
 | .binOp .shr t x y _=>if Ur (AL G F y) then (DX P G F o).bind λy=> .ok (y,H) else match pl (AL G F x),pl (AL G F y) with
  |some (Y k n),ah (.int _ m)=> .req (0<=m) (.ok (.v<|Y k<|n.fdiv<|2^(min m.toNat k.bits),H))
  |_,_=> .no
 | .index t x i=>match wQ (AL G F x) with
  |some l=>(aBS P t l<|AL G F i).bind λy=> .ok (y,H)
  |none=>match P.underlying t,pl<|AL G F x,pl (AL G F i) with
   |some .string,ah (.string s),ah (.int _ n)=> .req (0<=n/\n<(s.size:Int)) (.ok (.v<|Y aw<|Jn s n,H))
   |_,_,_=> .no
 | .call {callee:=.value f,args,..}=>match AL G F f with
  | .fn g cap=>LM P Γ H o g (args.toList.map (λx=>norm<|AL G F x)++cap)
  | .fb g fs=>LM P Γ H o g (fs++args.toList.map (λx=>norm<|AL G F x))
  |_=> .no
 | .call {callee:=.invoke r name,args,..}=>match gQ P (AL G F r) name with
  |some (g,rv)=>LM P Γ H o g (.v rv::args.toList.map (λx=>norm<|AL G F x))
  |none=> .no
 | .call {callee:=.builtin .append,args,argTypes}=>match args.toList.map (AL G F),argTypes.toList with
  | [x,y],[t,tx]=>LF P H t tx x y
  |_,_=> .no
 | .call {callee:=.builtin .copy,args,argTypes}=>match args.toList.map (AL G F),argTypes.toList with
  | [x,y],[t,tx]=>XU P H t tx x y
  |_,_=> .no
 | .call {callee:=.builtin .len,args,argTypes}=>match args.toList.map (AL G F),(argTypes[0]?).bind P.underlying with
  | [.os _ _ _ n],ah (.slice _)=> .ok (.v<|Y J n,H)
  | [.xl _ l],ah (.slice _)=> .ok (.v<|Y J (M l:Int),H)
  | [.oc _ _ _ n _],ah (.slice _)=> .ok (.ki J n,H)
  |_,_=>(DX P G F o).bind λy=> .ok (y,H)
 |_=>(DX P G F o).bind λy=> .ok (y,H)
def At (F:List LV):Option Tmp->LV->List LV
 |some d,x=>F.set d x
 |none,_=>F
structure Hand where
 k:FuncId->List LV->List AB->T (LV×List AB)
 y:Nat->List LV->List AB->T (LV×List AB)
def Fp:Hand:=⟨λ_ _ _=> .no,λ_ _ _=> .no⟩
def uu (G:B1) (F:List LV) (o:Oper):Option (Nat×List LV):=
 match o.op with
 | .call {callee:=.value f,args,..}=>match AL G F f with
  | .CK k=>ah (k,args.toList.map λx=>norm<|AL G F x)
  |_=>aj
 |_=>aj
def callOf (G:B1) (F:List LV) (o:Oper):Option (FuncId×List LV):=
 match o.op with
 | .call {callee:=.value f,args,..}=>match AL G F f with
  | .fn g cap=>ah (g,args.toList.map (λx=>norm<|AL G F x)++cap)
  | .fb g fs=>ah (g,fs++args.toList.map (λx=>norm<|AL G F x))
  | .v (.func (.func g) ⟨[]⟩ ⟨[]⟩)=>ah (g,args.toList.map λx=>norm<|AL G F x)
  |_=>aj
 |_=>aj
def Jq (P:Program) (G:B1) (Γ:Specs) (K:Hand) (F:List LV) (H:List AB) (o:Oper):T (LV×List AB):=
 match callOf G F o with
 | some (g,l)=>match Γ g with
  |some _=>Aw P G Γ F H o
  |none=>match P.funcs[g]? with
   |some fn=>if fn.body.isSome&&!(fn.name== "runtime.NumGoroutine") then K.k g l H else .no
   |none=> .no
 |none=>match uu G F o with
  |some (k,l)=>K.y k l H
  |none=>Aw P G Γ F H o
def fc (ty:Ty):List LV->Option (List<|List ty.D)
 | []=>ah []
 | x::xs=>match x with
  | .xl e l=>match Jf e ty,fc ty xs with
   |some ⟨h⟩,ah r=>ah (KX h l::r)
   |_,_=>aj
  |_=>aj
def aBW (P:Program) (G:B1) (F:List LV) (H:List AB) (o o2:Oper):Option (Int×Nat×LV):=
 if o.guard.isNone&&o2.guard.isNone then
  match o.op,o.dst,o2.op with
  | .indexAddr t x i,ah d,.load t2 (.tmp d2)=>
   if d2 =d/\d<M F/\SC P t2=ah X then
    match P.underlying t,AL G F x,AL G F i with
    | some (.array len e),.own k off,.v (.int _ n)=>
     if H3 P e=ah 1 then
      match H[k]? with
      | some b=>
       if b.Dl=U/\off+len<=M b.c then
        match (b.c.drop off).take len with
        | .xl ty l::rest=>match fc ty (.xl ty l::rest) with
         |some ls=>ah (n,len,.xl ty<|ls.getD n.toNat [])
         |none=>aj
        |_=>aj
       else aj
      |none=>aj
     else aj
    |_,_,_=>aj
   else aj
  |_,_,_=>aj
 else aj
def IM (P:Program) (G:B1) (Γ:Specs) (K:Hand) (ops:Array Oper):List Oper->List LV->List AB->T (List LV×List AB)
 | [],F,H=> .ok (F,H)
 | o::os,F,H=>
  let go (F:List LV):T (List LV×List AB):=(Jq P G Γ K F H o).bind λq=>IM P G Γ K ops os (At F o.dst q.1) q.2
  let pass (F:List LV):T (List LV×List AB):=IM P G Γ K ops os (At F o.dst<|.v undef) H
  match o.guard with
  | none=>match os with
   | []=>go F
   |o2::os2=>match aBW P G F H o o2 with
    |some (n,len,y)=> .req (0<=n/\n<(len:Int)) (IM P G Γ K ops os2 (At (At F o.dst .junk) o2.dst y) H)
    |none=>go F
  | some (j,want)=>match (ops[j]?).bind (·.dst) with
   |some d=>match F.getD d .junk with
    | .bl b=>if b=want then go F else pass F
    | .v (.bool g)=>if want then .br g (go<|F.set d<|.bl U) (pass<|F.set d<|.bl X) else .br g (pass<|F.set d<|.bl U) (go<|F.set d<|.bl X)
    | .v (.tuple _)=>pass F
    |_=> .no
   |none=> .no
def nki:LV->LV
 | .ki k n=> .v (Y k n)
 |x=>x
def TK (b:Bool):LV->LV->LV
 | .v (Y k n),.v (.int k' m)=>if k=k' then .v (Y k (if b then n else m)) else .junk
 | .bl U,.bl X=> .v (.bool b)
 | .bl X,.bl U=> .v (.bool !b)
 | .bl U,.bl U=> .bl U
 | .bl X,.bl X=> .bl X
 | .v (.bool p),.bl X=> .v (.bool<|b&&p)
 | .v (.bool p),.bl U=> .v (.bool (!b ||p))
 | .bl U,.v (.bool q)=> .v (.bool (b ||q))
 | .bl X,.v (.bool q)=> .v (.bool<|!b&&q)
 | .v (.bool p),.v (.bool q)=> .v (.bool (if b then p else q))
 |_,_=> .junk
def Wy (b:Bool) (x y:LV):LV:=TK b (nki x)<|nki y
def Oq (P:Program) (o:Oper):Bool:=
 match o.op with
 | .alloc _| .box ..| .store ..| .makeSlice ..| .makeMap ..| .insert ..| .mapUpdate ..=>X
 | .buildSlice ..=>X
 | .call {callee:=.builtin .append,..}=>X
 | .call {callee:=.builtin .copy,..}=>X
 | .call {callee:=.value _,..}=>LC P 8 o.type
 | .call {callee:=.invoke ..,..}=>LC P 8 o.type
 |_=>U
def S6 (P:Program) (Γ:Specs) (o:Oper):Bool:=
 Oq P o&&(match o.op with
 | .call {callee:=.value (.func g),..}=>(Γ g).isSome
 | .call {callee:=.value _,..}=>X
 |_=>U)
def FO (ops:List Oper):List Nat:=ops.filterMap (·.dst)
def TR (ds:List Nat) (b:Bool) (F F1 F2:List LV):List LV:=(au<|M F).map λi=>if ds.contains i then Wy b (F1.getD i .junk) (F2.getD i .junk) else F.getD i .junk
def fnX:LV->LV->Bool
 | .fn ..,.fn ..=>U
 | .fn ..,.v _=>U
 | .v _,.fn ..=>U
 |_,_=>X
def fnD (ds:List Nat) (F1 F2:List LV):Bool:=ds.any λd=>fnX (F1.getD d .junk)<|F2.getD d .junk
def KJ (ds:List Nat) (F:List LV) (H:List AB):T (List LV×List AB)->T (List LV×List AB)
 | .ok x=> .ok x
 | .no=> .no
 | .req p t=> .req p (KJ ds F H t)
 | .br b t e=>match KJ ds F H t,KJ ds F H e with
  | .ok x,.ok y=>if fnD ds x.1 y.1 then .br b (.ok x) (.ok y) else .ok (TR ds b F x.1 y.1,H)
  |t',e'=> .br b t' e'
def aBQ (P:Program) (G:B1) (Γ:Specs) (K:Hand) (ops:Array Oper) (F:List LV) (H:List AB):T (List LV×List AB):=
 if ops.toList.all (S6 P Γ) then KJ (FO ops.toList) F H (IM P G Γ K ops ops.toList F H) else IM P G Γ K ops ops.toList F H
def isSp (P:Program) (o:Oper):Bool:=
 match o.op with
 | .alloc _| .box ..| .store ..| .buildSlice ..| .makeSlice ..| .makeMap ..| .insert ..| .mapUpdate ..=>U
 | .call {callee:=.builtin .append,..}=>U
 | .call {callee:=.builtin .copy,..}=>U
 | .call {callee:=.value _,..}=>!LC P 8 o.type
 | .call {callee:=.invoke ..,..}=>!LC P 8 o.type
 |_=>X
def cf (sp:Oper->Bool):List Bool->List Oper->List Bool
 |fs,[]=>fs
 |fs,o::os=>cf sp (fs++[sp o ||o.after.toList.any (λe=>Region.binds .any e&&fs.getD e.on X)]) os
def ajd (o:Oper):Bool:=
 match o.op with
 | .assign _=>U
 |_=>X
def MS (H:List AB) (ops:List Oper) (F:List LV):Nat->Nat->List Nat
 |0,_=>[]
 | d+1,t=>match ops.find? (λo=>o.dst==ah t&&!ajd o) with
  | some o=>match o.op with
   | .fieldAddr _ (.tmp y) _=>MS H ops F d y
   | .indexAddr _ (.tmp y) _=>MS H ops F d y
   | .move (.tmp y)=>MS H ops F d y
   | .nilCheck (.tmp y)=>MS H ops F d y
   | .load _ (.tmp y)=>(MS H ops F d y).flatMap λk=>match H[k]? with
    |some b=>ownsL b.c
    |none=>[]
   |_=>[]
  |none=>match F.getD t .junk with
   | .own k _=>[k]
   | .op k _ _ _=>[k]
   | .os k _ _ _=>[k]
   | .om k=>[k]
   |_=>[]
def tracked (H:List AB) (ops:List Oper) (F:List LV):List Nat:=ops.flatMap λo=>match o.op with
 | .store _ (.tmp x) _=>MS H ops F 12 x
 | .insert _ (.tmp x) _ _=>MS H ops F 12 x
 | .mapUpdate _ (.tmp x) _ _=>MS H ops F 12 x
 | .call {callee:=.builtin .append,args,..}=>match args.toList with
  |(.tmp x)::_=>MS H ops F 12 x
  |_=>[]
 | .call {callee:=.builtin .copy,args,..}=>match args.toList with
  |(.tmp x)::_=>MS H ops F 12 x
  |_=>[]
 |_=>[]
def amI (H:List AB) (ops:List Oper) (F:List LV) (tr:List Nat) (o:Oper):Bool:=
 match o.op with
 | .load _ (.tmp x)=>(MS H ops F 12 x).any tr.contains
 |_=>X
def Qc (b:AB):AB:=
 match b.k with
 | .cl=>⟨aq (M b.c) .junk,b.t,.cl,b.p⟩
 |_=>⟨[],b.t,.dead,X⟩
def EP (tr:List Nat):Nat->List AB->List AB
 |_,[]=>[]
 |k,b::bs=>(if tr.contains k then Qc b else b)::EP tr (k+1) bs
def Wf (o:Oper):Bool:=
 match o.op with
 | .call {callee:=.value _,..}=>U
 | .call {callee:=.invoke ..,..}=>U
 |_=>X
def qU (G:B1) (F:List LV) (tr:List Nat) (o:Oper):Bool:=
 match o.op with
 | .load _ x=>match AL G F x with
  | .own k _=>!tr.contains k
  | .op k _ _ _=>!tr.contains k
  |_=>U
 | .lookup _ x _ _=>match AL G F x with
  | .om k=>!tr.contains k
  |_=>U
 |_=>U
def aK4 (t:T<|LV×List AB):T LV:=t.bind λq=> .ok q.1
def XP (P:Program) (G:B1) (Γ:Specs) (tr:List Nat) (F:List LV) (Hm:List AB) (o:Oper):T LV:=
 if isSp P o || !qU G F tr o then .no
 else if Wf o then QS (aK4<|Aw P G Γ F Hm o)
 else aK4 (Aw P G Γ F Hm o)
def Hw (P:Program) (G:B1) (Γ:Specs) (ops:Array Oper) (tr:List Nat) (H Hm:List AB):List Bool->List Oper->List LV->T (List LV×List AB)
 | f::fs,o::os,F=>
  if f then Hw P G Γ ops tr H Hm fs os F else
  let go (F:List LV):T (List LV×List AB):=(XP P G Γ tr F Hm o).bind λy=>Hw P G Γ ops tr H Hm fs os<|At F o.dst y
  let pass (F:List LV):T (List LV×List AB):=Hw P G Γ ops tr H Hm fs os<|At F o.dst<|.v undef
  match o.guard with
  |none=>go F
  | some (j,want)=>match (ops[j]?).bind (·.dst) with
   |some d=>match F.getD d .junk with
    | .bl b=>if b=want then go F else pass F
    | .v (.bool g)=>if want then .br g (go<|F.set d<|.bl U) (pass<|F.set d<|.bl X) else .br g (pass<|F.set d<|.bl U) (go<|F.set d<|.bl X)
    | .v (.tuple _)=>pass F
    |_=> .no
   |none=> .no
 |_,_,F=> .ok (F,H)
def Ea (G:B1) (F:List LV) (o:Oper):List Nat:=
 match o.op with
 | .store _ x _=>owns (AL G F x)
 | .insert _ x _ _=>owns (AL G F x)
 | .mapUpdate _ x _ _=>owns (AL G F x)
 | .call {callee:=.builtin .append,args,..}=>match args.toList.map (AL G F) with
  |x::_=>owns x
  | []=>[]
 | .call {callee:=.builtin .copy,args,..}=>match args.toList.map (AL G F) with
  |x::_=>owns x
  | []=>[]
 |_=>[]
def CI (G:B1) (F:List LV) (tr:List Nat) (n0:Nat) (o:Oper):Bool:=(Ea G F o).all λk=>tr.contains k ||an (n0<=k)
def p2x (P:Program) (G:B1) (Γ:Specs) (ops:Array Oper) (tr:List Nat) (n0:Nat):List Bool->List Oper->List LV->List AB->T (List LV×List AB)
 | f ::fs,o::os,F,H=>
  if f then
   let go (F:List LV):T (List LV×List AB):=if CI G F tr n0 o then (Aw P G Γ F H o).bind λq=>p2x P G Γ ops tr n0 fs os (At F o.dst q.1) q.2 else .no
   let pass (F:List LV):T (List LV×List AB):=p2x P G Γ ops tr n0 fs os (At F o.dst<|.v undef) H
   match o.guard with
   |none=>go F
   | some (j,want)=>match (ops[j]?).bind (·.dst) with
    |some d=>match F.getD d .junk with
     | .bl b=>if b=want then go F else pass F
     | .v (.bool g)=>if want then .br g (go<|F.set d<|.bl U) (pass<|F.set d<|.bl X) else .br g (pass<|F.set d<|.bl U) (go<|F.set d<|.bl X)
     | .v (.tuple _)=>pass F
     |_=> .no
    |none=> .no
  else p2x P G Γ ops tr n0 fs os F H
 |_,_,F,H=> .ok (F,H)
def IJ (o:Oper):Bool:=
 match o.op with
 | .buildSlice ..=>U
 | .call {callee:=.value _,..}=>U
 |_=>X
def ES (o:Oper):Bool:=
 match o.op with
 | .alloc _=>U
 | .box ..=>U
 | .makeSlice ..=>U
 | .buildSlice _ len parts=>(len==0)&&parts.toList.isEmpty
 |_=>X
def My (o:Oper):Bool:=
 match o.op with
 | .alloc _=>U
 | .box ..=>U
 | .load ..=>U
 |_=>X
def IV (P:Program) (G:B1) (Γ:Specs) (F:List LV) (o:Oper):T LV:=
 match o.op with
 | .buildSlice t len parts=>if aOL Γ t then .no else if noOwnL ((parts.toList.map λq=>(q.1,AL G F q.2)).map (·.2)) then Li P t len (parts.toList.map λq=>(q.1,AL G F q.2)) else .no
 | .call {callee:=.value f,args,..}=>match AL G F f with
  | .fn g cap=>match P.funcs[g]? with
   | some fn=>if fn.body.isSome&&!(fn.name== "runtime.NumGoroutine") then
     match Γ g with
     |some S=>if noOwnL (args.toList.map (λx=>norm<|AL G F x)++cap) then S (args.toList.map (λx=>norm<|AL G F x)++cap) else .no
     |none=> .no
    else .no
   |none=> .no
  |_=> .no
 |_=> .no
def abM (o:Oper):List Nat:=(o.after.toList.filter<|Region.binds .any).map (·.on)
def aKI:List (List Nat)->List Oper->List (List Nat)
 |acc,[]=>acc
 |acc,o::os=>aKI (acc++[(abM o++(abM o).flatMap (λk=>acc.getD k [])).eraseDups]) os
def ajH (A:List<|List Nat) (n i:Nat):Bool:=(au n).all λj=>j==i ||(A.getD i []).contains j ||(A.getD j []).contains i
def Ey (ops:Array Oper) (i:Nat) (o:Oper):Bool:=IJ o&&!ajH (aKI [] ops.toList) ops.size i
def Fs (P:Program) (G:B1) (Γ:Specs) (ops:Array Oper) (i:Nat) (F:List LV) (H:List AB) (o:Oper):T (LV×List AB):=
 if Ey ops i o then (IV P G Γ F o).bind λy=> .ok (y,H) else Aw P G Γ F H o
def FT (P:Program) (G:B1) (Γ:Specs) (ops:Array Oper) (tr:List Nat) (n0:Nat):List Nat->List LV->List AB->T (List LV×List AB)
 | [],F,H=> .ok (F,H)
 |i::is,F,H=>match ops[i]? with
  |some o=>if o.guard.isNone&&CI G F tr n0 o then (Fs P G Γ ops i F H o).bind λq=>FT P G Γ ops tr n0 is (At F o.dst q.1) q.2 else .no
  |none=> .no
def J1 (o:Oper):Bool:=
 match o.op with
 | .move _=>U
 | .assign _=>U
 | .indexAddr ..=>U
 | .fieldAddr ..=>U
 | .build ..=>U
 | .extract ..=>U
 | .call {callee:=.builtin .max,..}=>U
 | .call {callee:=.builtin .min,..}=>U
 | .binOp op _ _ _ _=>(match op with
  | .add=>U
  | .sub=>U
  | .mul=>U
  |_=>X)
 |_=>X
def Jg (o:Oper):Bool:=
 match o.op with
 | .load ..=>U
 |_=>X
def gT (o:Oper):Bool:=
 match o.op with
 | .store ..=>U
 | .alloc _=>U
 | .box ..=>U
 |_=>X
def Lm (o:Oper):Bool:=
 match o.op with
 | .call {callee:=.builtin .append,..}=>U
 |_=>X
def R7 (ops:Array Oper) (i j:Nat):Bool:=
 match ops[i]?,ops[j]? with
 |some x,ah y=>x.guard.isNone&&y.guard.isNone&&((My x&&Ey ops j y) ||(Ey ops i x&&My y) ||(Ey ops i x&&Ey ops j y) ||((J1 x ||Jg x)&&(J1 y ||Jg y)) ||(J1 x&&gT y) ||(gT x&&J1 y) ||(Ey ops i x&&Lm y) ||(Lm x&&Ey ops j y))&&x.apart ops y
 |_,_=>X
def Fg (i:Nat):List Nat->List Nat
 | []=>[]
 |j::js=>if j=i then [] else j::Fg i js
def Ln (ops:Array Oper):Nat->List Nat->Array Bool->Bool
 |0,R,listed=>R.isEmpty&&(ay .any ops listed).isEmpty
 |n+1,R,listed=>!(ay .any ops listed).isEmpty&&(ay .any ops listed).all λi=>R.contains i&&(Fg i R).all (λj=>R7 ops i j)&&Ln ops n (R.erase i) (listed.setIfInBounds i U)
def preB (ops:Array Oper) (i p:Nat):Bool:=
 match ops[i]? with
 |some o=>o.after.toList.any λe=>Region.binds .any e&&e.on==p
 |none=>X
def gd (ops:Array Oper) (R:List Nat):Nat->Nat->Nat->Bool
 |0,i,j=>preB ops i j
 |n+1,i,j=>preB ops i j ||R.any λp=>preB ops i p&&gd ops R n p j
def fE (ops:Array Oper) (R0:List Nat):List Nat->Bool
 | []=>U
 |j::R=>R.all (λi=>R7 ops i j ||gd ops R0 4 i j)&&fE ops R0 R
def aTx (ops:Array Oper) (R:List Nat) (listed:Array Bool):Bool:=R.all λi=>
 match ops[i]? with
 |some o=>o.after.toList.all λe=>!Region.binds .any e ||(listed.getD e.on X ||(Fg i R).contains e.on)
 |none=>X
def mD:List Nat->Bool
 | []=>U
 |x::l=>!l.contains x&&mD l
def m5 (ops:Array Oper) (R:List Nat) (listed:Array Bool):Bool:=
 mD R&&(listed.size==ops.size&&((au ops.size).all (λi=>R.contains i==!listed.getD i U)&&(R.all (λi=>an<|i<ops.size)&&(fE ops R R&&aTx ops R listed))))
def Wm (ops:Array Oper) (flags:List Bool):Bool:=letI a:=TP (idxs X flags 0)<|Array.replicate ops.size X;letI b:=idxs U flags 0;TW ops flags&&(m5 ops b a ||Ln ops (M b) b a)
def G3:AB:=⟨[],0,.dead,X⟩
def JA (P:Program) (G:B1) (F:List LV) (H:List AB) (k:Nat) (o:Oper):T (LV×List AB):=
 match o.op with
 | .alloc t=>match IG P t with
  |some z=>match CJ (.v z) with
   |some cs=> .ok (.own k 0,H.set k ⟨cs,t,.cl,X⟩)
   |none=> .no
  |none=> .no
 | .box t x=>match CJ (AL G F x) with
  |some cs=> .ok (.own k 0,H.set k ⟨cs,t,.cl,X⟩)
  |none=> .no
 | .makeSlice t n c=>match PI P t,pl<|AL G F n,pl (AL G F c) with
  | some (e,ty,m,F4),ah (Y J n),ah (Y J c)=>match IG P e with
   |some z=>match Ji ty (z.cells.toList.map .v) with
    |some d=>if z.cells.size=m then .req (0<=n/\n<=c/\F4*c<=2^48/\c<2^63) (.ok (.os k m 0 n.toNat,H.set k ⟨[],e,.vec ty<|aq n.toNat d,X⟩)) else .no
    |none=> .no
   |none=> .no
  |_,_,_=> .no
 | .buildSlice t len parts=>if len=0 then (if parts.toList.isEmpty then (match PI P t with
  |some (e,ty,m,_)=> .ok (.os k m 0 0,H.set k ⟨[],e,.vec ty [],X⟩)
  |none=> .no) else .no) else .no
 |_=> .no
def am1 (ops:Array Oper) (t:Tmp):Option Nat:=(au ops.size).find? λi=>match ops[i]? with
 |some o=>o.dst==ah t
 |none=>X
def apD (ops:Array Oper) (o:Oper):Option Nat:=
 match o.op with
 | .call {callee:=.builtin .append,args,..}=>(match args.toList with
  | .tmp t::_=>am1 ops t
  |_=>aj)
 |_=>aj
def apK (d n0:Nat):List LV->Bool
 | [.os k _ _ _,.xl _ _]=>k==n0+d
 |_=>X
def Lc (G:B1) (ops:Array Oper) (n0:Nat) (F:List LV) (H:List AB) (o:Oper):Bool:=
 match o.op with
 | .call {callee:=.builtin .append,args,..}=>(match apD ops o with
  |some d=>an (n0+ops.size<=M H)&&apK d n0 (args.toList.map<|AL G F)
  |none=>X)
 |_=>X
def Pb (o:Oper):Bool:=
 match o.op with
 | .store ..=>U
 | .move _=>U
 | .assign _=>U
 | .build ..=>U
 |_=>X
def Hx (P:Program) (G:B1) (Γ:Specs) (ops:Array Oper) (n0 i:Nat) (F:List LV) (H:List AB) (o:Oper):T (LV×List AB):=
 if ES o then JA P G F H (n0+i) o else if Pb o then Aw P G Γ F H o else if Lc G ops n0 F H o then Aw P G Γ F H o else .no
def Fw (P:Program) (G:B1) (Γ:Specs) (ops:Array Oper) (tr:List Nat) (n0:Nat):List Nat->List LV->List AB->T (List LV×List AB)
 | [],F,H=> .ok (F,H)
 |i::is,F,H=>match ops[i]? with
  |some o=>if o.guard.isNone&&CI G F tr n0 o then (Hx P G Γ ops n0 i F H o).bind λq=>Fw P G Γ ops tr n0 is (At F o.dst q.1) q.2 else .no
  |none=> .no
def J5 (o:Oper):Bool:=
 match o.op with
 | .move _=>U
 | .assign _=>U
 | .build ..=>U
 |_=>X
def gr (ops:Array Oper) (i j:Nat):Bool:=
 match ops[i]?,ops[j]? with
 |some x,ah y=>!(i==j)&&x.guard.isNone&&y.guard.isNone&&(((ES x ||J5 x)&&(ES y ||J5 y)) ||((ES x ||J5 x)&&(Lm y&&!(apD ops y==ah i))) ||((Lm x&&!(apD ops x==ah j))&&(ES y ||J5 y)))&&x.apart ops y
 |_,_=>X
def aN (ops:Array Oper):Nat->List Nat->Array Bool->Bool
 |0,R,listed=>R.isEmpty&&(ay .any ops listed).isEmpty
 |n+1,R,listed=>!(ay .any ops listed).isEmpty&&(ay .any ops listed).all λi=>R.contains i&&(Fg i R).all (λj=>gr ops i j)&&aN ops n (R.erase i) (listed.setIfInBounds i U)
def P3:List Nat->Bool
 | []=>U
 |k::ks=>!ks.contains k&&P3 ks
def alx (ops:Array Oper) (flags:List Bool):Bool:=letI a:=idxs U flags 0;TW ops flags&&P3 a&&a.all (λi=>an<|i<ops.size)&&aN ops (M a) a (TP (idxs X flags 0)<|Array.replicate ops.size X)
def pux (P:Program) (G:B1) (Γ:Specs) (F:List LV) (o:Oper):T LV:=
 match o.op with
 | .move x=> .ok (AL G F x)
 | .assign x=> .ok (AL G F x)
 | .pick c a b=>gg (AL G F c) (AL G F a) (AL G F b)
 | .load t x=>(match AL G F x with
  | .xq m f=>FH P [] t (.xq m f)
  |_=> .no)
 | .fieldAddr s x i=>Wn P s (AL G F x) i
 | .indexAddr t x i=>TU P t (AL G F x) (Ur<|AL G F i) (AL G F i)
 | .build t parts=>NZ P t (parts.toList.map λq=>(q.1,Hh G F q.2))
 | .buildSlice ..=>IV P G Γ F o
 | .call {callee:=.value _,..}=>IV P G Γ F o
 | .unOp ..=>DX P G F o
 | .binOp op _ _ _ _=>(match op with
  | .quo=> .no
  | .rem=> .no
  | .shl=> .no
  | .shr=> .no
  |_=>DX P G F o)
 |_=> .no
def zQ (G:B1) (F:List LV) (o:Oper):Bool:=
 match o.op with
 | .load _ x=>(match AL G F x with
  | .own _ _=>U
  |_=>X)
 |_=>U
def spz (P:Program) (G:B1) (Γ:Specs) (F:List LV) (H:List AB) (o:Oper):T (LV×List AB):=if zQ G F o then Aw P G Γ F H o else .no
def Gv (P:Program) (G:B1) (Γ:Specs) (ops:Array Oper) (tr:List Nat) (n0:Nat):List Nat->List LV->List AB->T (List LV×List AB)
 | [],F,H=> .ok (F,H)
 |i::is,F,H=>match ops[i]? with
  |some o=>if o.guard.isNone&&CI G F tr n0 o then (spz P G Γ F H o).bind λq=>Gv P G Γ ops tr n0 is (At F o.dst q.1) q.2 else .no
  |none=> .no
def Us (P:Program) (o:Oper):Bool:=
 match o.op with
 | .call {callee:=.builtin .append,..}=>U
 | .buildSlice t len _=>an (len=0) ||cY P t
 |_=>X
def gq (P:Program) (ops:Array Oper) (i j:Nat):Bool:=
 match ops[i]?,ops[j]? with
 |some x,ah y=>x.guard.isNone&&y.guard.isNone&&(Jg x&&Us P y)&&x.apart ops y
 |_,_=>X
def aO (P:Program) (ops:Array Oper):Nat->List Nat->Array Bool->Bool
 |0,R,listed=>R.isEmpty&&(ay .any ops listed).isEmpty
 |n+1,R,listed=>!(ay .any ops listed).isEmpty&&(ay .any ops listed).all λi=>R.contains i&&(Fg i R).all (λj=>gq P ops i j)&&aO P ops n (R.erase i) (listed.setIfInBounds i U)
def aGs (ops:Array Oper) (i:Nat):List Nat->List Nat
 | []=>[i]
 |j::js=>if preB ops j i then i::j::js else j::aGs ops i js
def UA (ops:Array Oper):List Nat->List Nat
 | []=>[]
 |i::is=>if (ops[i]?).any Jg then aGs ops i (UA ops is) else i::UA ops is
def fX (P:Program) (ops:Array Oper) (flags:List Bool):Bool:=letI a:=idxs U flags 0;TW ops flags&&((UA ops a).all (λi=>flags.getD i X)&&aO P ops (M a) (UA ops a) (TP (idxs X flags 0)<|Array.replicate ops.size X))
def iB (P:Program) (G:B1) (Γ:Specs) (ops:Array Oper) (F:List LV) (H:List AB):T (List LV×List AB):=
 let tr:=tracked H ops.toList F
 let flags:=cf (λo=>isSp P o ||amI H ops.toList F tr o) [] ops.toList
 if gu ops flags&&P.follows .mixedOrders&&tr.all (λk=>an<|k<M H) then
  (KJ (FO ops.toList) F H<|Hw P G Γ ops tr H (EP tr 0 H) flags ops.toList F).bind λq=>p2x P G Γ ops tr (M H) flags ops.toList q.1 H
 else if (Wm ops flags ||fX P ops flags)&&P.follows .mixedOrders&&tr.all (λk=>an<|k<M H) then
  (KJ (FO ops.toList) F H<|Hw P G Γ ops tr H (EP tr 0 H) flags ops.toList F).bind λq=>if Wm ops flags then FT P G Γ ops tr (M H) (idxs U flags 0) q.1 H else Gv P G Γ ops tr (M H) (UA ops<|idxs U flags 0) q.1 H
 else if alx ops flags&&P.follows .mixedOrders&&tr.all (λk=>an<|k<M H) then
  (KJ (FO ops.toList) F H<|Hw P G Γ ops tr H (EP tr 0 H) flags ops.toList F).bind λq=>Fw P G Γ ops tr (M H) (idxs U flags 0) q.1<|H++aq ops.size G3
 else .no
def aGD (ops:List Oper) (s:Nat):Nat:=
 match ops.find? (λo=>o.dst==ah s) with
 |some o=>match o.op with
  | .move (.tmp y)=>y
  |_=>s
 |none=>s
def isApp (o:Oper):Bool:=
 match o.op with
 | .call {callee:=.builtin .append,..}=>U
 |_=>X
def pq (P:Program) (ops:List Oper) (F:List LV):Option (Nat×IntKind×Int×Nat):=
 if ops.any isApp then
  ops.findSome? λo=>match o.op with
   | .indexAddr t _ (.tmp s)=>match P.underlying t with
    |some (.array len e)=>match P.underlying e,F.getD (aGD ops s) .junk with
     |some (.slice _),.v (Y k n)=>ah (aGD ops s,k,n,len)
     |_,_=>aj
    |_=>aj
   |_=>aj
 else aj
def splitN {α:Type}(f:Nat->T α) (n:Int):Nat->Nat->T α
 |0,_=> .no
 |1,j=>f j
 |m+2,j=> .br (n==(j:Int)) (f j)<|splitN f n (m+1)<|j+1
def XT (P:Program) (G:B1) (Γ:Specs) (ops:Array Oper) (F:List LV) (H:List AB):T (List LV×List AB):=
 match pq P ops.toList F with
 |some (s,k,n,len)=> .req (0<=n/\n<(len:Int)) (splitN (λj=>iB P G Γ ops (F.set s<|.ki k j) H) n len 0)
 |none=>iB P G Γ ops F H
def nr (G:B1) (Γ:Specs) (ops:Array Oper):Option Oper:=
 match ops.back? with
 | some o=>match callOf G [] o with
  |some (g,_)=>match Γ g with
   |some _=>aj
   |none=>if lastB .any ops.pop o then ah o else aj
  |none=>aj
 |none=>aj
def gp (P:Program) (G:B1) (Γ:Specs) (K:Hand) (ops:Array Oper) (F:List LV) (H:List AB):T (List LV×List AB):=
 match nr G Γ ops with
 |some o=>(XT P G Γ ops.pop F H).bind λq=>(Jq P G Γ K q.1 q.2 o).bind λq2=> .ok (At q.1 o.dst q2.1,q2.2)
 |none=>XT P G Γ ops F H
def hwx (P:Program) (G:B1) (Γ:Specs) (F:List LV) (H:List AB) (o:Oper):T LV:=
 match o.op with
 | .call _=>IV P G Γ F o
 | .move x=> .ok (AL G F x)
 | .assign x=> .ok (AL G F x)
 | .load t x=>FH P H t (AL G F x)
 | .fieldAddr s x i=>Wn P s (AL G F x) i
 | .nilCheck x=>match AL G F x with
  | .own k off=> .ok (.own k off)
  | .op k es i j=> .ok (.op k es i j)
  | .xq n f=> .ok (.xq n f)
  |_=> .no
 | .binOp op _ _ _ _=>match op with
  | .add=>DX P G F o
  | .sub=>DX P G F o
  | .mul=>DX P G F o
  |_=> .no
 |_=> .no
def aJd (G:B1) (Γ:Specs) (ops:Array Oper):Option Nat:=(au ops.size).find? λi=>
 match ops[i]? with
 |some o=>(match callOf G [] o with
  |some (g,_)=>(Γ g).isNone
  |none=>X)
 |none=>X
def OM (ops:Array Oper) (i:Nat):List Nat:=
 match ops[i]? with
 |some o=>(o.after.toList.filter<|Region.binds .any).map (·.on)
 |none=>[]
def Gc (ops:Array Oper) (i:Nat):List Nat:=U4 .any ops ops.size<|OM ops i
def Ff (ops:Array Oper) (i:Nat):Option Tmp:=(ops[i]?).bind (·.dst)
def NV (ops:Array Oper) (i:Nat):List Tmp:=
 match ops[i]? with
 |some o=>o.looksAt ops
 |none=>[]
def Qb (ops:Array Oper) (w:Nat):List Nat:=(au ops.size).filter λi=>!(i==w)&&!(Gc ops i).contains w
def allA (ops:Array Oper) (w i:Nat):Bool:=(Qb ops w).all λj=>(Gc ops i).contains j
def R3 (ops:Array Oper) (w:Nat):List Nat:=(au ops.size).filter λi=>!(i==w)&&((Gc ops i).contains w&&!allA ops w i)
def Jb (ops:Array Oper) (w:Nat):List Nat:=(au ops.size).filter λi=>!(i==w)&&((Gc ops i).contains w&&allA ops w i)
def gn (ops:Array Oper) (w:Nat):List Nat:=Qb ops w++([w]++R3 ops w)
def ab1 (ops:Array Oper) (i j:Nat):Bool:=
 match Ff ops j with
 |some d=>(i==j || !(Ff ops i==ah d))&&(!(NV ops i).contains d ||(!(i==j)&&an (j<i)&&(Gc ops i).contains j))
 |none=>X
def aPy (ops:Array Oper) (i j:Nat):Bool:=
 match Ff ops j with
 |some d=>!(NV ops i).contains d
 |none=>X
def okW (ops:Array Oper) (w n:Nat):Bool:=
 let AW:=gn ops w
 AW.all (λi=>(match ops[i]? with|some o=>o.guard.isNone|none=>X)&&(match Ff ops i with|some d=>an (d<n) |none=>X)&&
  (OM ops i).all (λp=>an (p<i)&&AW.contains p)&&AW.all (λj=>ab1 ops i j))&&
 ((Jb ops w).all (λb=>AW.all λi=>(Gc ops b).contains i)&&(Qb ops w++[w]).all λi=>([w]++R3 ops w).all λj=>aPy ops i j)
def goW (P:Program) (G:B1) (Γ:Specs) (ops:Array Oper) (H:List AB):List Nat->List LV->T (List LV)
 | [],F=> .ok F
 |i::is,F=>match ops[i]? with
  |some o=>(hwx P G Γ F H o).bind λy=>goW P G Γ ops H is (At F o.dst y)
  |none=> .no
def aU (P:Program) (G:B1) (Γ:Specs) (ops:Array Oper) (H:List AB) (F:List LV):List Nat->T Unit
 | []=> .ok ()
 | i::is=>match ops[i]? with
  |some o=>(match o.op with
   | .load _ _=>(hwx P G Γ F H o).bind λy=> .req (y=(match o.dst with|some d=>F.getD d .junk|none=> .junk)) (aU P G Γ ops H F is)
   |_=>aU P G Γ ops H F is)
  |none=> .no
def KD (ops:Array Oper) (w:Nat):Array Bool:=((au ops.size).map λi=>(gn ops w).contains i).toArray
def aTy (ops:Array Oper):Nat->Array Bool->List Nat
 |0,_=>[]
 |n+1,l=>match ay .any ops l with
  | []=>[]
  |i::_=>i::aTy ops n (l.setIfInBounds i U)
def J4 (ops:Array Oper) (w:Nat):List Nat:=aTy ops (M<|Jb ops w)<|KD ops w
def zy (P:Program) (G:B1) (Γ:Specs) (K:Hand) (ops:Array Oper) (w:Nat) (F:List LV) (H:List AB):T (List LV×List AB):=
 if okW ops w (M F)&&P.follows .mixedOrders&&(M (J4 ops w)==M (Jb ops w))&&(m5 ops (J4 ops w) (KD ops w) ||Ln ops (M<|J4 ops w) (J4 ops w) (KD ops w)) then
  match ops[w]? with
  |some o=>(goW P G Γ ops H (Qb ops w) F).bind λF1=>(Jq P G Γ K F1 H o).bind λq=>(aU P G Γ ops q.2 F1<|(Qb ops w).filter λi=>!(Gc ops w).contains i).bind λ_=>(goW P G Γ ops q.2 (R3 ops w)<|At F1 o.dst q.1).bind λF3=>FT P G Γ ops [] (M q.2) (J4 ops w) F3 q.2
  |none=> .no
 else .no
def zx (P:Program) (G:B1) (Γ:Specs) (K:Hand) (ops:Array Oper) (F:List LV) (H:List AB):T (List LV×List AB):=
 match nr G Γ ops with
 |some _=>gp P G Γ K ops F H
 |none=>match aJd G Γ ops with
  |some w=>zy P G Γ K ops w F H
  |none=>gp P G Γ K ops F H
def GY:Code->Nat
 | .region id _ _=>id
 | .seq a _=>GY a
 | .block _ b=>GY b
 | .loop b=>GY b
 | .cond _ a _=>GY a
 |_=>0
abbrev LN:=Nat->List LV->List AB->T (Ex×List LV×List AB)
abbrev Qi:=Code->List LV->List AB->T (Ex×List LV×List AB)
def Lv (L:LN):Qi:=λb=>L<|GY b
def uQ:Option AB->Option Ex
 |some ⟨_,_,.Cc _ _ _ .ready,X⟩=>ah .normal
 |some ⟨_,_,.Cc _ _ _ (.done x),X⟩=>match x with
  | .normal=>aj
  |x=>ah x
 |_=>aj
def aBI:Operand->List Nat
 | .tmp t=>[t]
 |_=>[]
def Gi:Code->List Nat
 | .region _ ops _=>ops.toList.flatMap λo=>o.op.operands.toList.flatMap aBI
 | .seq a b=>Gi a++Gi b
 | .cond c a b=>aBI c++Gi a++Gi b
 | .block _ b=>Gi b
 | .loop b=>Gi b
 | .rangeFunc f _ a b=>aBI f++Gi a++Gi b
 | .scope b=>Gi b
 |_=>[]
def PE (us:List Nat) (F:List LV):List LV:=(au<|M F).map λi=>if us.contains i then F.getD i .junk else .junk
def D8 (P:Program) (G:B1) (Γ:Specs) (K:Hand) (L:Qi):Code->List LV->List AB->T (Ex×List LV×List AB)
 | .skip,F,H=> .ok (.normal,F,H)
 | .ret,F,H=> .ok (.ret,F,H)
 | .exit n,F,H=> .ok (.exit n,F,H)
 | .region _ ops d,F,H=>(if d then zx P G Γ K ops F H else aBQ P G Γ K ops F H).bind λq=> .ok (.normal,q.1,q.2)
 | .seq a b,F,H=>(D8 P G Γ K L a F H).bind λq=>match q.1 with
  | .normal=>D8 P G Γ K L b q.2.1 q.2.2
  |x=> .ok (x,q.2)
 | .cond c a b,F,H=>match c with
  | .tmp d=>match F.getD d .junk with
   | .bl U=>D8 P G Γ K L a F H
   | .bl X=>D8 P G Γ K L b F H
   | .v (.bool g)=> .br g (D8 P G Γ K L a (F.set d<|.bl U) H) (D8 P G Γ K L b (F.set d<|.bl X) H)
   |_=> .no
  | .const (.bool U)=>D8 P G Γ K L a F H
  | .const (.bool X)=>D8 P G Γ K L b F H
  |_=> .no
 | .block id a,F,H=>(D8 P G Γ K L a F H).bind λq=>match q.1 with
  | .exit n=>if n=id then .ok (.normal,q.2) else .ok (.exit n,q.2)
  |x=> .ok (x,q.2)
 | .loop a,F,H=>L a F H
 | .scope a,F,H=>D8 P G Γ K L a F H
 | .label _,F,H=> .ok (.normal,F,H)
 | .rangeFunc f ps asg body,F,H=>match AL G F f with
  | .fn g cap=>match P.funcs[g]? with
   | some fn=>if fn.body.isSome&&!(fn.name== "runtime.NumGoroutine") then
     (K.k g (.CK H.length::cap)<|H++[⟨PE (Gi asg++Gi body) F,0,.Cc ps asg body .ready,X⟩]).bind λq=>match uQ q.2[H.length]? with
      |some x=> .ok (x,F,q.2.set H.length ⟨[],0,.dead,X⟩)
      |none=> .no
    else .no
   |none=> .no
  |_=> .no
 |_,_,_=> .no
def S4 (P:Program) (fn:Func) (F:List LV) (H:List AB):List ResultVar->T (List LV)
 | []=> .ok []
 | .tmp t::rs=>(S4 P fn F H rs).bind λl=> .ok (norm (F.getD t .junk)::l)
 | .cell a t::rs=>(FH P H t<|F.getD a .junk).bind λy=>(S4 P fn F H rs).bind λl=> .ok (y::l)
def one (l:List LV):LV:=match l with| [x]=>x|l=>R1 l
def aBa (P:Program) (fn:Func) (t:List LV->List AB->T (Ex×List LV×List AB)) (args:List LV):T LV:=
 (t (args++aq (fn.ntmps-M args) (.v undef)) []).bind λq=>match q.1 with
  | .exit _=> .no
  |_=>(S4 P fn q.2.1 q.2.2 fn.results.toList).bind λl=>if noOwn (one l) then .ok (one l) else (ED q.2.2 8<|one l).bind λ_=> .ok<|Bx q.2.2 8<|one l
def aBX (P:Program) (G:B1) (Γ:Specs) (K:Hand) (L:LN) (fn:Func) (args:List LV):T LV:=
 match fn.body with
 |some c=>aBa P fn (D8 P G Γ K (Lv L) c) args
 |none=> .no
def D7:List (FuncId×(List LV->T LV))->Specs
 | [],_=>aj
 |p::ps,g=>if g=p.1 then ah p.2 else D7 ps g
def Al:LN:=λ_ _ _=> .no
def dK:Qi:=λ_ _ _=> .no
def Ho:Code->Bool
 | .seq a b=>Ho a&&Ho b
 | .cond _ a b=>Ho a&&Ho b
 | .block _ b=>Ho b
 | .loop b=>Ho b
 | .rangeFunc ..=>X
 | .scope b=>Ho b
 |_=>U
def qk (t:List LV->List AB->T (Ex×List LV×List AB)):Nat->List LV->List AB->T (Ex×List LV×List AB)
 |0,_,_=> .no
 |m+1,F,H=>(t F H).bind λq=>match q.1 with
  | .normal=>qk t m q.2.1 q.2.2
  |x=> .ok (x,q.2)
def J2 (P:Program) (G:B1) (Γ:Specs) (K:Hand) (m:Nat):Nat->Qi
 |0=>dK
 |d+1=>λb=>qk (D8 P G Γ K (J2 P G Γ K m d) b) m
def XN (F:List LV):List Tmp->List LV->List LV
 |t::ts,x::xs=>XN (F.set t x) ts xs
 |_,_=>F
abbrev DG:=Hand->FuncId->Nat->Qi
def ER (P:Program) (G:B1) (Γ:Specs) (LL:DG) (K:Hand):Hand:=
 ⟨λg args H=>match P.funcs[g]? with
  | some fn=>match fn.body with
   |some c=>(D8 P G Γ K (LL K g<|M H) c (args++aq (fn.ntmps-M args) (.v undef)) H).bind λq=>match q.1 with
    | .exit _=> .no
    |_=>(S4 P fn q.2.1 q.2.2 fn.results.toList).bind λl=> .ok (one l,q.2.2)
   |none=> .no
  |none=> .no,
  λk args H=>match H[k]? with
  | some ⟨F,t,.Cc ps asg body .ready,X⟩=>if M args=ps.size/\Ho asg=U/\Ho body=U then
    (D8 P G Γ K dK asg (XN F ps.toList args) H).bind λ(q:Ex×List LV×List AB)=>match q.1 with
     | .normal=>(match q.2.2[k]? with
      | some ⟨F1,_,.Cc ps1 asg1 body1 .ready,X⟩=>(D8 P G Γ K (J2 P G Γ K 20 2) body q.2.1<|q.2.2.set k ⟨F1,t,.Cc ps1 asg1 body1 .busy,X⟩).bind λ(r:Ex×List LV×List AB)=>match r.2.2[k]? with
       |some ⟨F2,_,.Cc ps2 asg2 body2 .busy,X⟩=>(match r.1 with
        | .normal=> .ok (.bl U,r.2.2.set k ⟨F2,t,.Cc ps2 asg2 body2 .ready,X⟩)
        |x=> .ok (.bl X,r.2.2.set k ⟨F2,t,.Cc ps2 asg2 body2<|.done x,X⟩))
       |_=> .no
      |_=> .no)
     |_=> .no
   else .no
  |_=> .no⟩
def inl (P:Program) (G:B1) (Γ:Specs) (LL:DG):Nat->Hand
 |0=>Fp
 |d+1=>ER P G Γ LL<|inl P G Γ LL d
abbrev Does:=FuncId->Option (List LV->List AB->T (LV×List AB))
def Uu (P:Program) (G:B1) (Γ:Specs) (LL:DG) (C:Does):Nat->Hand
 |0=>Fp
 |d+1=>⟨λg args H=>match C g with
  |some m=>m args H
  |none=>(ER P G Γ LL<|Uu P G Γ LL C d).k g args H,(ER P G Γ LL<|Uu P G Γ LL C d).y⟩
structure Gz where
 z:Nat->Prop
 gh:List (LV×Value)
 Ci:List Nat
variable {P : Program} {G : B1} {Γ : Specs} {β : Nat -> Loc} {Z : Nat -> Prop} {Z0 : Gz} {w w0 : World} {F : List LV} {H : List AB} {a : Act} {ds : List Deferred}
theorem Cb {x:LV}{y z:Value}(h:pl x=ah y) (hr:R β Z w x z):z=y:=by
 cases x with
 |v q=>simp only [pl,Ah] at h;simp only [R] at hr;rw [hr,h]
 |bl b=>simp only [pl,Ah] at h;simp only [R] at hr;rw [hr,h]
 |ki k n=>simp only [pl,Ah] at h;simp only [R] at hr;rw [hr,h]
 | fn f l=>
  cases l with
  |nil=>
   simp only [pl,Ah] at h;simp only [R,RL] at hr;obtain ⟨ys,h1,h2⟩:=hr
   have:ys=#[]:=A8
   grind
  |cons _ _=>simp [pl] at h
 |_=>simp [pl] at h
def aKL {x:LV}{y:Value}(h:pl x=ah y):R β Z w x y:=by
 cases x with
 |v q=>simp only [pl,Ah] at h;simp only [R];exact h.symm
 |bl b=>simp only [pl,Ah] at h;simp only [R];exact h.symm
 |ki k n=>simp only [pl,Ah] at h;simp only [R];exact h.symm
 |fn f l=>
  cases l with
  |nil=>simp only [pl,Ah] at h;simp only [R,RL];exact ⟨#[],h.symm,rfl⟩
  |cons _ _=>simp [pl] at h
 |_=>simp [pl] at h
def aP2:∀ {l:List LV}{ys zs:List Value},Az l=ah ys->RL β Z w l zs->zs=ys
 | [],ys,zs,h,hr=>by simp only [Az,Ah] at h;simp only [RL] at hr;rw [hr,h]
 | x::xs,ys,zs,h,hr=>by
  simp only [Az] at h;split at h
  ·rename_i y ys' h1 h2
   simp only [Ah] at h;obtain ⟨y',zs',e1,e2,e3⟩:=hr;rw [e1,Cb h1 e2,aP2 h2 e3,h]
  ·cases h
def Oy {x:LV}{y:Value}(h:R β Z w x y):R β Z w (norm x) y:=yg
def TB {n:Nat}{x:LV}(h:okV n x):okV n (norm x):=yg
theorem aEB:∀ {l:List LV}{ys:List Value},RL β Z w l ys->RL β Z w (l.map norm) ys
 | [],_,h=>A8
 |x::xs,ys,h=>by
  obtain ⟨y,zs,h1,h2,h3⟩:=h;exact ⟨y,zs,h1,Oy h2,aEB h3⟩
def og {n:Nat}:∀ {l:List LV},AS n l->AS n (l.map norm)
 | [],_=>trivial
 |x::xs,h=>by
  exact ⟨TB h.1,og h.2⟩
def Vz {l:List LV}{ys:Array Value}(h:RL β Z w l ys.toList):R β Z w (Jc l) (.agg ys):=by
 unfold Jc;exact aKt
def qC {l:List LV}{ys:Array Value}(h:RL β Z w l ys.toList):R β Z w (R1 l) (.tuple ys):=by
 unfold R1;exact aKt
def QB {n:Nat}{l:List LV}(h:AS n l):okV n (Jc l):=by
 unfold Jc;split
 ·trivial
 ·simpa only [okV] using og h
def oq {n:Nat}{l:List LV}(h:AS n l):okV n (R1 l):=by
 unfold R1;split
 ·trivial
 ·simpa only [okV] using og h
def TZ (n:Nat):∀(l:List Value),AS n (l.map .v)
 | []=>trivial
 |_::xs=>⟨ak,TZ n xs⟩
def Uf:∀(l:List Value),RL β Z w (l.map .v) l
 | []=>aH
 |x::xs=>by simp only [E9,RL,R];exact ⟨x,xs,rfl,rfl,Uf xs⟩
def aD0 {x:LV}{y:Value}(h:WR x=U) (hr:R β Z w x y):Jl y=true:=by
 cases x with
 |v q=>simp only [R] at hr;rw [hr];exact h
 |bl b=>simp only [R] at hr;rw [hr];rfl
 |ki k n=>simp only [R] at hr;rw [hr];rfl
 |own k off=>simp only [R] at hr;rw [hr];rfl
 |fn f l=>simp only [R] at hr;obtain ⟨ys,h1,_⟩:=hr;rw [h1];rfl
 |fb f l=>simp only [R] at hr;obtain ⟨ys,h1,_⟩:=hr;rw [h1];rfl
 |xq n f=>simp only [R] at hr;obtain ⟨b,off,h1,_⟩:=hr;rw [h1];rfl
 |os k es off n=>
  simp only [R] at hr;split at hr
  ·rw [hr.2.2];rfl
  ·obtain ⟨_,a,h1,_⟩:=hr;rw [h1];rfl
 |op k es i j=>simp only [R] at hr;rw [hr.2];rfl
 |om k=>simp only [R] at hr;rw [hr];rfl
 |mp kd ks vs=>simp only [R] at hr;obtain ⟨r,es,c,h1,_⟩:=hr;rw [h1];rfl
 |oc k es off n c=>simp only [R] at hr;obtain ⟨_,a,h1,_⟩:=hr;rw [h1];rfl
 |CK k=>simp only [R] at hr;rw [hr];rfl
 |xl e l=>simp only [R] at hr;obtain ⟨b,off,h1,_⟩:=hr;rw [h1];rfl
 |agg l=>simp [WR] at h
 |AO l=>simp [WR] at h
 |junk=>simp [WR] at h
def afg {y:Value}(h:Jl y=U):y.cells=#[y]:=by cases y<;>first|rfl|(simp [Jl] at h)
theorem nq {x:LV}{y:Value}{cs:List LV}(h:CJ x=ah cs) (hr:R β Z w x y):RL β Z w cs y.cells.toList/\(∀z∈y.cells.toList,Jl z=U):=by
 have single:∀x:LV,WR x=U->R β Z w x y->RL β Z w [x] y.cells.toList/\(∀z∈y.cells.toList,Jl z=U):=λx hx hr=>by
  have h1:=aD0 hx hr
  rw [afg h1];refine ⟨?_,?_⟩
  ·simp only [RL];exact ⟨y,[],rfl,hr,rfl⟩
  ·intro z hz
   grind
 cases x with
 | v q=>
  simp only [CJ] at h;split at h
  ·rename_i ha
   simp only [Ah] at h;subst h hr;exact ⟨Uf _,λz hz=>BP.1 ha z hz⟩
  ·cases h
 | agg l=>
  simp only [CJ] at h;split at h
  ·rename_i ha
   simp only [Ah] at h;obtain ⟨ys,h1,h2⟩:=hr;subst h h1;refine ⟨h2,λz hz=>?_⟩
   obtain ⟨i,hi,hz'⟩:=I4.1 hz
   have hlen:=RL.length h2
   have hl:l[i]? =ah (l[i]'(by simp only [Value.cells] at hi;omega)):=DQ _
   obtain ⟨y',e1,e2⟩:=RL.get i _ h2 hl
   have:y'=z:=by
    simp only [Value.cells] at hi hz'
    grind
   rw [<-this];exact aD0 (BP.1 ha _<|H0 _) e2
  ·cases h
 |bl b=>simp only [CJ,Ah] at h;subst h;exact single _ rfl hr
 |ki k n=>simp only [CJ,Ah] at h;subst h;exact single _ rfl hr
 |own k off=>simp only [CJ,Ah] at h;subst h;exact single _ rfl hr
 |fn f l=>simp only [CJ,Ah] at h;subst h;exact single _ rfl hr
 |fb f l=>simp only [CJ,Ah] at h;subst h;exact single _ rfl hr
 |xq n f=>simp only [CJ,Ah] at h;subst h;exact single _ rfl hr
 |os k es off n=>simp only [CJ,Ah] at h;subst h;exact single _ rfl hr
 |op k es i j=>simp only [CJ,Ah] at h;subst h;exact single _ rfl hr
 |om k=>simp only [CJ,Ah] at h;subst h;exact single _ rfl hr
 |mp kd ks vs=>simp only [CJ,Ah] at h;subst h;exact single _ rfl hr
 |oc k es off n c=>simp only [CJ,Ah] at h;subst h;exact single _ rfl hr
 |CK k=>simp only [CJ,Ah] at h;subst h;exact single _ rfl hr
 |xl e l=>simp only [CJ,Ah] at h;subst h;exact single _ rfl hr
 |AO l=>simp [CJ] at h
 |junk=>simp [CJ] at h
def nT {n:Nat}{x:LV}{cs:List LV}(h:CJ x=ah cs) (hr:okV n x):AS n cs:=by
 cases x with
 |v q=>
  simp only [CJ] at h;split at h
  ·simp only [Ah] at h;subst h;exact TZ _ _
  ·cases h
 |agg l=>
  simp only [CJ] at h;split at h
  ·simp only [Ah] at h;subst h;simpa only [okV] using hr
  ·cases h
 |bl b=>simp only [CJ,Ah] at h;subst h;exact ⟨hr,ak⟩
 |ki k n=>simp only [CJ,Ah] at h;subst h;exact ⟨hr,ak⟩
 |own k off=>simp only [CJ,Ah] at h;subst h;exact ⟨hr,ak⟩
 |fn f l=>simp only [CJ,Ah] at h;subst h;exact ⟨hr,ak⟩
 |fb f l=>simp only [CJ,Ah] at h;subst h;exact ⟨hr,ak⟩
 |xq n f=>simp only [CJ,Ah] at h;subst h;exact ⟨hr,ak⟩
 |os k es off n=>simp only [CJ,Ah] at h;subst h;exact ⟨hr,ak⟩
 |op k es i j=>simp only [CJ,Ah] at h;subst h;exact ⟨hr,ak⟩
 |om k=>simp only [CJ,Ah] at h;subst h;exact ⟨hr,ak⟩
 |mp kd ks vs=>simp only [CJ,Ah] at h;subst h;exact ⟨hr,ak⟩
 |oc k es off n c=>simp only [CJ,Ah] at h;subst h;exact ⟨hr,ak⟩
 |CK k=>simp only [CJ,Ah] at h;subst h;exact ⟨hr,ak⟩
 |xl e l=>simp only [CJ,Ah] at h;subst h;exact ⟨ak,ak⟩
 |AO l=>simp [CJ] at h
 |junk=>simp [CJ] at h
def Pg (G:B1) (Z:Nat->Prop) (w:World):Prop:=∀g n f,G g=ah (n,f)->Z g/\∀j,j<n->w.cell? ⟨g,j,aj⟩=ah (f j)
def okB (n:Nat) (b:AB):Prop:=AS n b.c/\(match b.k with| .mp _ _ vs=>AS n vs|_=>True)
def live (β:Nat->Loc) (k:Nat) (b:AB):Prop:=
 match b.k with
 | .cl=>True
 | .vec _ _=>(β k).cap≠aj
 | .mp ..=>True
 | .Cc ..=>True
 | .st ..=>True
 | .dead=>False
def aR1:Ex->Option Code
 | .normal=>aj
 | .exit n=>ah (.exit n)
 | .ret=>ah .ret
def LsR:LS->Loop->Prop
 | .ready,r=>r.state=.ready/\r.pending=aj
 | .busy,r=>r.state=.busy
 | .done x,r=>r.state=.done/\r.pending=aR1 x
def BZ (β:Nat->Loc) (Z:Nat->Prop) (w:World) (k:Nat) (b:AB):Prop:=
 match b.k with
 | .cl=>∃cs,w.heap[(β k).b]? =ah (.cells cs b.t (0,0))/\RL β Z w b.c cs.toList
 | .vec e l=>match (β k).cap with
  |none=>l=[]
  |some c=>∃cs,w.heap[(β k).b]? =ah (.cells cs b.t (0,0))/\(β k).o+c*e.n<=cs.size/\M l<=c/\∀(i:Nat) (d:e.D),l[i]? =ah d->RD Z w e d (β k).b ((β k).o+i*e.n)
 | .mp kd ks vs=>∃es clock,w.heap[(β k).b]? =ah (.map es clock)/\es.toList.map (·.key)=ks.map (.int kd)/\RL β Z w vs (es.toList.map (·.val))
 | .Cc ps asg body st=>∃r:Loop,w.heap[(β k).b]? =ah (.loop r)/\r.params=ps/\r.assign=asg/\r.body=body/\LsR st r/\RL β Z w b.c r.tmps.toList
 | .st e l=>∃es clock,w.heap[(β k).b]? =ah (.map es clock)/\es.toList.map (·.key)=List.map (aBU e) l/\∀x,x∈es.toList->x.val=.bool U
 | .dead=>True
abbrev GW (D:Nat):Deferred:={target:=.collected D,args:=#[]}
def Fc (w:World) (D:Nat):Prop:=w.heap[D]? =ah (.deferred<|ah [])
structure RW (G:B1) (w0:World) (Z0:Gz) (Z:Nat->Prop) (β:Nat->Loc) (H:List AB) (w:World):Prop where
 below:Below w0.heap.size w0 w
 Bb:∀b,Z b->b<w.heap.size
 EX:∀b,Z b->Z0.z b\/w0.heap.size<=b
 Cf:∀k b,H[k]? =ah b->live β k b->b.p=X->¬Z (β k).b
 G6:∀k b,H[k]? =ah b->live β k b->b.p=U->Z (β k).b
 low:∀k b,H[k]? =ah b->live β k b->w0.heap.size<=(β k).b
 inj:∀i j bi bj,H[i]? =ah bi->H[j]? =ah bj->live β i bi->live β j bj->bi.p=X->(β i).b=(β j).b->i=j
 blk:∀k b,H[k]? =ah b->BZ β Z w k b/\okB (M H) b
 CW:Pg G Z w
 gh:∀p,p∈Z0.gh->R β Z w p.1 p.2/\okV (M H) p.1
 Ci:∀D,D∈Z0.Ci->Z D/\Fc w D
structure RF (ds:List Deferred) (β:Nat->Loc) (Z:Nat->Prop) (w:World) (n:Nat) (F:List LV) (a:Act):Prop where
 size:a.tmps.size=M F
 get:∀t x,F[t]? =ah x->R β Z w x (a.tmps.getD t undef)/\okV n x
 defers:a.defers=ds/\∀d,d∈ds->∃D,d=GW D/\Z D/\Fc w D
theorem RF.eval (hF:RF ds β Z w (M H) F a) (hg:Pg G Z w) (x:Operand):R β Z w (AL G F x) (a.eval x)/\okV (M H) (AL G F x):=by
 cases x with
 |tmp t=>
  simp only [AL,Act.eval];cases h:F[t]? with
  |none=>simp [List.getD,h,R,okV]
  |some y=>simp only [List.getD,h,kA];exact hF.get t y h
 |const x=>
  simp only [AL,Act.eval];cases x<;>simp [R,okV]
 | global g=>
  simp only [AL,Act.eval];split
  ·rename_i n f h
   obtain ⟨h1,h2⟩:=hg g n f h;simp only [R,okV]
   grind
  ·simp [R,okV]
 |func f=>simp only [AL,Act.eval,R,RL,okV,AS];exact ⟨⟨#[],rfl,rfl⟩,ak⟩
def T.pick {α:Type}{K:α->Prop}:∀ {t:T α},t.all K->∃x,K x/\t.all (λy=>y=x)
 | .ok x,h=>⟨x,h,rfl⟩
 | .br b t e,h=>by
  cases b with
  |true=>obtain ⟨x,h1,h2⟩:=T.pick<|h.1 rfl;exact ⟨x,h1,λ_=>h2,λhb=>L4⟩
  |false=>obtain ⟨x,h1,h2⟩:=T.pick<|h.2 rfl;exact ⟨x,h1,λhb=>L4,λ_=>h2⟩
 | .req p t,h=>by obtain ⟨x,h1,h2⟩:=T.pick h.2;exact ⟨x,h1,h.1,h2⟩
 | .no,h=>Ao
def cell_of_block {b:Nat}{cs:Array Value}{t:TypeId}(h:w.heap[b]? =ah (.cells cs t (0,0))) (o:Nat):w.cell? ⟨b,o,aj⟩=cs[o]? :=by
 simp [World.cell?,h]
def azy {b:Nat}{cs:Array Value}{t:TypeId}(h:w.heap[b]? =ah (.cells cs t (0,0))) (o:Nat):w.frozen? ⟨b,o,aj⟩=false:=by
 simp [World.frozen?,h]
theorem addr_add (b o i:Nat):Addr.add ⟨b,o,aj⟩ i=⟨b,o+i,aj⟩:=by
 unfold Addr.add;split
 ·grind
 ·rfl
def bz {t:TypeId}{b:Bool}(h:SC P t=ah b) (w:World):(isAgg t).run P w=.ok b w:=by
 unfold SC at h;cases hu:P.underlying t with
 |none=>simp [hu] at h
 |some d=>
  unfold isAgg;simp only [kL,CV hu,jz];cases d<;>simp_all
def run_sizeOf {t:TypeId}{n:Nat}(h:H3 P t=ah n) (w:World):(sizeOf t).run P w=.ok n w:=by
 unfold H3 at h;cases hu:P.info? t with
 |none=>simp [hu] at h
 |some d=>
  simp only [hu,JQ,Ah] at h
  simp [sizeOf,typeInfo,hu,h]
def mr {t:TypeId}{z:Value}(h:IG P t=ah z) (w:World):(zeroValue t).run P w=.ok z w:=by
 unfold IG at h;cases hu:P.info? t with
 |none=>simp [hu] at h
 |some d=>
  simp only [hu,OU] at h
  simp [zeroValue,typeInfo,hu,h]
theorem RL.take_drop {l:List LV}{ys:List Value}(h:RL β Z w l ys) (off n:Nat):RL β Z w ((l.drop off).take n) ((ys.drop off).take n):=by
 have hl:=RL.length h
 refine RL.CQ A8 λi x hx=>?_
 rw [Kz] at hx|-;split at hx
 ·rename_i hi
  rw [AD hi];rw [F8] at hx|-;exact RL.get _ _ h hx
 ·cases hx
def AS.take_drop {n:Nat}{l:List LV}(h:AS n l) (off m:Nat):AS n ((l.drop off).take m):=by
 refine AS.CQ λi x hx=>?_
 rw [Kz] at hx;split at hx
 ·rw [F8] at hx;exact AS.get _ _ h hx
 ·cases hx
def RF.mono {β':Nat->Loc}{Z':Nat->Prop}{w':World}{n m:Nat}(hF:RF ds β Z w n F a) (hn:n<=m) (hβ:∀k,k<n->β' k=β k) (hZ:∀b,Z b->Z' b)
  (hw:∀b,Z b->w'.heap[b]? =w.heap[b]?):RF ds β' Z' w' m F a:=
 ⟨hF.size,λt x hx=>⟨R.mono hβ hZ hw x _ (hF.get t x hx).2 (hF.get t x hx).1,okV.mono hn x (hF.get t x hx).2⟩,hF.defers.1,λd hd=>by
  obtain ⟨D,h1,h2,h3⟩:=hF.defers.2 d hd;exact ⟨D,h1,hZ D h2,by unfold Fc;rw [hw D h2];exact h3⟩⟩
def okB.mono {n m:Nat}(h:n<=m) {b:AB}(hb:okB n b):okB m b:=by
 refine ⟨AS.mono h _ hb.1,?_⟩
 have:=hb.2
 split
 ·rename_i hk;rw [hk] at this;exact AS.mono h _ this
 ·trivial
def KC {β':Nat->Loc}{k:Nat}{b:AB}(h:β' k=β k):live β' k b=live β k b:=by
 unfold live;rw [h]
theorem BZ.keep {β':Nat->Loc}{Z':Nat->Prop}{w':World}{n k:Nat}{b:AB}(hβ:∀k,k<n->β' k=β k) (hZ:∀b,Z b->Z' b) (hw:∀b,Z b->w'.heap[b]? =w.heap[b]?) (hk:β' k=β k)
  (hb:live β k b->w'.heap[(β k).b]? =w.heap[(β k).b]?) (hok:okB n b) (h:BZ β Z w k b):BZ β' Z' w' k b:=by
 unfold BZ at*;unfold live at hb;unfold okB at hok;rw [hk];split at h
 ·rename_i hbk
  obtain ⟨cs,h1,h2⟩:=h;exact ⟨cs,A8,RL.mono hβ hZ hw _ _ hok.1 h2⟩
 ·rename_i e l hbk
  simp only [hbk] at hb|-;split at h
  ·rename_i hc
   grind
  ·rename_i c hc
   have hb':=hb (by rw [hc];simp)
   obtain ⟨cs,h1,h2,h3,h4⟩:=h;exact ⟨cs,A8,h2,h3,λi d hd=>RD.keep hZ hw e d _ _ hb'<|h4 i d hd⟩
 ·rename_i kd ks vs hbk
  simp only [hbk] at hb hok|-;obtain ⟨es,clock,h1,h2,h3⟩:=h;exact ⟨es,clock,A8,h2,RL.mono hβ hZ hw _ _ hok.2 h3⟩
 ·rename_i ps asg body st hbk
  obtain ⟨r,h1,h2,h3,h4,h5,h6⟩:=h;exact ⟨r,A8,h2,h3,h4,h5,RL.mono hβ hZ hw _ _ hok.1 h6⟩
 ·rename_i e l hbk
  grind
 ·rename_i hbk
  grind
theorem RW.lt (hW:RW G w0 Z0 Z β H w) {k:Nat}{b:AB}(hk:H[k]? =ah b) (hl:live β k b):(β k).b<w.heap.size:=by
 have h:=(hW.blk k b hk).1
 unfold BZ at h;unfold live at hl;split at h
 ·obtain ⟨cs,h1,_⟩:=h
  grind
 ·rename_i hbk
  split at h
  ·grind
  ·obtain ⟨cs,h1,_⟩:=h
   grind
 ·obtain ⟨es,clock,h1,_⟩:=h
  grind
 ·obtain ⟨r,h1,_⟩:=h
  grind
 ·obtain ⟨es,clock,h1,_⟩:=h
  grind
 ·rename_i hbk
  grind
def Dx {w w':World}(hb:Below w.heap.size w w') {b:Nat}(h:b<w.heap.size):w'.heap[b]? =w.heap[b]? :=hb.block b h
def Pg.mono {Z':Nat->Prop}{w':World}(h:Pg G Z w) (hZ:∀b,Z b->Z' b) (hw:∀b,Z b->w'.heap[b]? =w.heap[b]?):Pg G Z' w':=λg n f hg=>by
 obtain ⟨h1,h2⟩:=h g n f hg;exact ⟨hZ _ h1,λj hj=>by rw [Q5<|hw g h1];exact h2 j hj⟩
def RW.call {w':World}(hW:RW G w0 Z0 Z β H w) (hb:Below w.heap.size w w'):RW G w0 Z0 (λb=>Z b\/(w.heap.size<=b/\b<w'.heap.size)) β H w':=by
 have hs:=hb.size
 have h0:=hW.below.size
 have hw:∀b,Z b->w'.heap[b]? =w.heap[b]? :=λb hz=>Dx hb<|hW.Bb b hz
 refine ⟨hW.below.trans<|hb.mono h0,λb hz=>?_,λb hz=>?_,λk b hk hl hp hz=>?_,λk b hk hl hp=> .inl<|hW.G6 k b hk hl hp,hW.low,hW.inj,λk b hk=>?_,hW.CW.mono (λ_ h=> .inl h) hw,λp hp=>⟨R.mono (n:=M H) (λ_ _=>rfl) (λ_ h=> .inl h) hw _ _ (hW.gh p hp).2 (hW.gh p hp).1,(hW.gh p hp).2⟩,λD hD=>⟨.inl (hW.Ci D hD).1,Zq⟩⟩
 ·rcases hz with hz|hz
  ·have:=hW.Bb b hz;omega
  ·exact hz.2
 ·rcases hz with hz|hz
  ·exact hW.EX b hz
  ·omega
 ·rcases hz with hz|hz
  ·exact hW.Cf k b hk hl hp hz
  ·have:=hW.lt hk hl;omega
 ·obtain ⟨h1,h2⟩:=hW.blk k b hk
  exact ⟨h1.keep (λ_ _=>rfl) (λ_ h=> .inl h) hw rfl (λhl=>Dx hb<|hW.lt hk hl) h2,h2⟩
def RW.same {w':World}(hW:RW G w0 Z0 Z β H w) (hb:Below w.heap.size w w'):RW G w0 Z0 Z β H w':=by
 have hs:=hb.size
 have h0:=hW.below.size
 have hw:∀b,Z b->w'.heap[b]? =w.heap[b]? :=λb hz=>Dx hb<|hW.Bb b hz
 refine ⟨hW.below.trans<|hb.mono h0,λb hz=>?_,hW.EX,hW.Cf,hW.G6,hW.low,hW.inj,λk b hk=>?_,hW.CW.mono (λ_ h=>h) hw,λp hp=>⟨R.mono (n:=M H) (λ_ _=>rfl) (λ_ h=>h) hw _ _ (hW.gh p hp).2 (hW.gh p hp).1,(hW.gh p hp).2⟩,λD hD=>⟨(hW.Ci D hD).1,Zq⟩⟩
 ·have:=hW.Bb b hz;omega
 ·obtain ⟨h1,h2⟩:=hW.blk k b hk
  exact ⟨h1.keep (λ_ _=>rfl) (λ_ h=>h) hw rfl (λhl=>Dx hb<|hW.lt hk hl) h2,h2⟩
theorem RW.KO {ℓ:Loc}{nb:AB}(hW:RW G w0 Z0 Z β H w) (hp:nb.p=X) (hok:okB (M H+1) nb)
  (hf:live (λ_=>ℓ) 0 nb->¬Z ℓ.b/\w0.heap.size<=ℓ.b/\∀j bj,H[j]? =ah bj->live β j bj->(β j).b≠ℓ.b)
  (hB:∀β':Nat->Loc,(∀k,k<M H->β' k=β k)->β' (M H)=ℓ->BZ β' Z w (M H) nb):
  ∃β',(∀k,k<M H->β' k=β k)/\β' (M H)=ℓ/\RW G w0 Z0 Z β' (H++[nb]) w:=by
 let β':Nat->Loc:=λk=>if k=M H then ℓ else β k
 have hb':∀k,k<M H->β' k=β k:=λk hk=>A8
 have hbn:β' (M H)=ℓ:=by simp [β']
 have hlive:live β' (M H) nb=live (λ_=>ℓ) 0 nb:=by unfold live;rw [hbn]
 have old:∀k b,(H++[nb])[k]? =ah b->(k<M H/\H[k]? =ah b/\β' k=β k)\/(k=M H/\b=nb):=λk b h=>by
  by_cases hk:k<M H
  ·grind
  ·have hkl:k=M H:=A8
   subst hkl
   simp at h
   exact .inr ⟨rfl,h.symm⟩
 refine ⟨β',hb',hbn,hW.below,hW.Bb,hW.EX,λk b hk hl hp'=>?_,λk b hk hl hp'=>?_,λk b hk hl=>?_,λi j bi bj hi hj li lj hpi e=>?_,λk b hk=>?_,hW.CW,λp hp=>⟨R.mono hb' (λ_ h=>h) (λ_ _=>rfl) _ _ (hW.gh p hp).2 (hW.gh p hp).1,okV.mono AI _ (hW.gh p hp).2⟩,hW.Ci⟩
 ·rcases old k b hk with ⟨h1,h2,h3⟩ |⟨rfl,rfl⟩
  ·rw [h3];rw [KC h3] at hl;exact hW.Cf k b h2 hl hp'
  ·grind
 ·rcases old k b hk with ⟨h1,h2,h3⟩ |⟨rfl,rfl⟩
  ·rw [h3];rw [KC h3] at hl;exact hW.G6 k b h2 hl hp'
  ·rw [hp] at hp';cases hp'
 ·rcases old k b hk with ⟨h1,h2,h3⟩ |⟨rfl,rfl⟩
  ·rw [h3];rw [KC h3] at hl;exact hW.low k b h2 hl
  ·grind
 ·rcases old i bi hi with ⟨h1,h2,h3⟩ |⟨rfl,rfl⟩
  ·rw [KC h3] at li
   rcases old j bj hj with ⟨g1,g2,g3⟩ |⟨rfl,rfl⟩
   ·rw [KC g3] at lj;rw [h3,g3] at e;exact hW.inj i j bi bj h2 g2 li lj hpi e
   ·grind
  ·rw [hlive] at li
   rcases old j bj hj with ⟨g1,g2,g3⟩ |⟨rfl,rfl⟩
   ·rw [KC g3] at lj;rw [hbn,g3] at e;exact absurd e.symm<|(hf li).2.2 j bj g2 lj
   ·rfl
 ·have hlen:M (H++[nb])=M H+1:=AI
  rw [hlen];rcases old k b hk with ⟨h1,h2,h3⟩ |⟨rfl,rfl⟩
  ·obtain ⟨g1,g2⟩:=hW.blk k b h2
   exact ⟨g1.keep hb' (λ_ h=>h) (λ_ _=>rfl) h3 (λ_=>rfl) g2,g2.mono A0⟩
  ·grind
theorem RW.set {w':World}{k:Nat}{b nb:AB}(hW:RW G w0 Z0 Z β H w) (hk:H[k]? =ah b) (hl:live β k b) (hp:b.p=X) (hnp:nb.p=X) (hok:okB (M H) nb)
  (hsz:w'.heap.size=w.heap.size) (hos:w'.os=w.os/\w'.tape=w.tape/\w'.output=w.output) (hne:∀j,j≠(β k).b->w'.heap[j]? =w.heap[j]?) (hB:BZ β Z w' k nb):RW G w0 Z0 Z β (H.set k nb) w':=by
 have hw:∀b',Z b'->w'.heap[b']? =w.heap[b']? :=λb' hz=>hne b' λe=>hW.Cf k b hk hl hp<|e▸hz
 have old:∀i bi,(H.set k nb)[i]? =ah bi->(i=k/\bi=nb)\/(i≠k/\H[i]? =ah bi):=λi bi h=>by
  rw [I7] at h;split at h
  ·rename_i e
   grind
  ·grind
 refine ⟨?_,λb' hz=>aNr,hW.EX,λi bi hi li pi=>?_,λi bi hi li pi=>?_,λi bi hi li=>?_,λi j bi bj hi hj li lj pi e=>?_,λi bi hi=>?_,hW.CW.mono (λ_ h=>h) hw,λp hp=>⟨R.mono (n:=M H) (λ_ _=>rfl) (λ_ h=>h) hw _ _ (hW.gh p hp).2 (hW.gh p hp).1,aNs⟩,λD hD=>⟨(hW.Ci D hD).1,Zq⟩⟩
 ·refine hW.below.trans ⟨hos.1,hos.2.1,hos.2.2,k7 hsz.symm,λi hi=>hne i ?_⟩
  have:=hW.low k b hk hl
  omega
 ·rcases old i bi hi with ⟨rfl,rfl⟩ |⟨h1,h2⟩
  ·exact hW.Cf _ b hk hl hp
  ·exact hW.Cf i bi h2 li pi
 ·rcases old i bi hi with ⟨rfl,rfl⟩ |⟨h1,h2⟩
  ·grind
  ·exact hW.G6 i bi h2 li pi
 ·rcases old i bi hi with ⟨rfl,rfl⟩ |⟨h1,h2⟩
  ·exact hW.low _ b hk hl
  ·exact hW.low i bi h2 li
 ·rcases old i bi hi with ⟨rfl,rfl⟩ |⟨h1,h2⟩
  ·rcases old j bj hj with ⟨rfl,rfl⟩ |⟨g1,g2⟩
   ·rfl
   ·exact hW.inj _ j b bj hk g2 hl lj hp e
  ·rcases old j bj hj with ⟨rfl,rfl⟩ |⟨g1,g2⟩
   ·exact hW.inj i _ bi b h2 hk li hl pi e
   ·exact hW.inj i j bi bj h2 g2 li lj pi e
 ·rw [CH]
  rcases old i bi hi with ⟨rfl,rfl⟩ |⟨h1,h2⟩
  ·grind
  ·obtain ⟨g1,g2⟩:=hW.blk i bi h2
   refine ⟨g1.keep (λ_ _=>rfl) (λ_ h=>h) hw rfl (λli=>hne _ λe=>?_) g2,g2⟩
   exact h1 (hW.inj k i b bi hk h2 hl li hp e.symm).symm
theorem RW.alloc {cs:List LV}{vs:Array Value}{t:TypeId}(hW:RW G w0 Z0 Z β H w) (hr:RL β Z w cs vs.toList) (hk:AS (M H) cs):
  ∃β',(∀k,k<M H->β' k=β k)/\(β'<|M H).b=w.heap.size/\RW G w0 Z0 Z β' (H++[⟨cs,t,.cl,X⟩]) (w.alloc<|.cells vs t)/\(∀b,Z b->(w.alloc<|.cells vs t).heap[b]? =w.heap[b]?):=by
 have hbw:Below w.heap.size w (w.alloc<|.cells vs t):=(Below.refl _ _).alloc (Ar _) _
 have hw:∀b,Z b->(w.alloc<|.cells vs t).heap[b]? =w.heap[b]? :=λb hz=>Dx hbw<|hW.Bb b hz
 obtain ⟨β',h1,h2,h3⟩:=(hW.same hbw).KO (ℓ:=⟨w.heap.size,0,aj⟩) (nb:=⟨cs,t,.cl,X⟩) rfl ⟨AS.mono A0 _ hk,ak⟩ (λ_=>⟨λhz=>Zw,hW.below.size,λj bj hj lj e=>Sm⟩) (λβ' h1 h2=>by
  simp only [BZ,h2];refine ⟨vs,?_,RL.mono h1 (λ_ h=>h) hw _ _ hk hr⟩
  show (w.heap.push _)[w.heap.size]? =_
  simp)
 grind
def DN (β:Nat->Loc) (H:List AB) (ks:List Nat):List Nat:=(ks.filter λk=>@decide (∃b,H[k]? =ah b/\live β k b/\b.p=X)<|Classical.propDecidable _).map λk=>(β k).b
theorem cq {ks:List Nat}{x:Nat}:x∈DN β H ks↔∃k b,k∈ks/\H[k]? =ah b/\live β k b/\b.p=X/\x=(β k).b:=by
 unfold DN;simp only [Ej,DE]
 constructor
 ·rintro ⟨k,⟨h1,h2⟩,h3⟩
  grind
 ·rintro ⟨k,b,h1,h2,h3,h4,h5⟩
  grind
def TN {k:Nat}{b:AB}(hb:H[k]? =ah b) (hl:live β k b) (hp:b.p=X):(β k).b∈DN β H [k]:=cq.2 ⟨k,b,AI,hb,hl,hp,rfl⟩
end Go.Sx
namespace Go.Sx
open Go.Proofs.YtipodhghjclmbaaGreatDoor
open Go Go.RowKit
variable {P : Program} {G : B1} {Γ : Specs} {β : Nat -> Loc} {Z : Nat -> Prop} {Z0 : Gz} {w w0 : World} {F : List LV} {H : List AB} {a : Act}
theorem RD.cells {Z Z':Nat->Prop}{w w':World}(hZ:∀b,Z b->Z' b) (hw:∀b,Z b->w'.heap[b]? =w.heap[b]?):
  ∀(t:Ty) (d:t.D) (b o:Nat),(∀j,j<t.n->w'.cell? ⟨b,o+j,aj⟩=w.cell? ⟨b,o+j,aj⟩)->RD Z w t d b o->RD Z' w' t d b o
 | .int _,_,b,o,hb,h=>VJ
 | .bool,_,b,o,hb,h=>VJ
 | .str,_,b,o,hb,h=>VJ
 | .sl e,l,b,o,hb,h=>by
  exact aLE
 | .pair x y,d,b,o,hb,h=>by
  refine ⟨RD.cells hZ hw x d.1 b o (λj hj=>hb j lL) h.1,RD.cells hZ hw y d.2 b _ (λj hj=>?_) h.2⟩
  have:=hb (x.n+j) lL
  grind
theorem getD_lt {l:List LV}{j:Nat}(h:j<M l):l[j]? =ah (l.getD j .junk):=A8
def dP {n:Nat}{l:List LV}(h:AS n l) (j:Nat):okV n (l.getD j .junk):=by
 cases hq:l[j]? with
 |none=>simp [List.getD,hq,okV]
 |some q=>simp only [List.getD,hq,kA];exact AS.get _ _ h hq
theorem getD_at {e:Ty}{l:List e.D}{i:Nat}(h:i<M l):l[i]? =ah (l.getD i e.dflt):=A8
theorem ot {b off n:Nat}{L:List LV}(hL:M L=n) (hc:∀q,q<n->∃z,w.cell? ⟨b,off+q,aj⟩=ah z/\R β Z w (L.getD q .junk) z):
  ∃zs:List Value,M zs=n/\RL β Z w L zs/\∀w':World,w'.heap[b]? =w.heap[b]? ->(loadCells ⟨b,off,aj⟩ n).run P w'=.ok zs.toArray w':=by
 have hch:∀j,∃z,j<n->w.cell? ⟨b,off+j,aj⟩=ah z/\R β Z w (L.getD j .junk) z:=λj=>by
  by_cases hj:j<n
  ·grind
  ·exact ⟨undef,λh=>absurd h hj⟩
 obtain ⟨g,hg⟩:=xN hch;refine ⟨(au n).map g,AI,RL.CQ A8 λi x hx=>?_,λw' hw'=>?_⟩
 ·have hi:i<n:=A8
  refine ⟨g i,A8,?_⟩
  grind
 ·have hld:=run_loadCells (P:=P) w' ⟨b,off,aj⟩ n g (λj hj=>by rw [addr_add,Q5 (w:=w) (w':=w') hw'];exact (hg j hj).1)
  grind
theorem mw {t:TypeId}{x lv:LV}{y:Value}(hW:RW G w0 Z0 Z β H w) (h:(FH P H t x).all λz=>z=lv) (hr:R β Z w x y) (hk:okV (M H) x):
  ∃z,(∀w',(∀b,(Z b\/∃k,k∈owns x/\b=(β k).b)->w'.heap[b]? =w.heap[b]?)->(Instr.loadAt t y).run P w'=.ok z w')/\R β Z w lv z/\okV (M H) lv:=by
 have ownCl:∀(k:Nat) (b:AB),H[k]? =ah b->b.Dl=U->∃cs,w.heap[(β k).b]? =ah (.cells cs b.t (0,0))/\RL β Z w b.c cs.toList/\AS (M H) b.c:=λk b hb hc=>by
  obtain ⟨h1,h2⟩:=hW.blk k b hb;unfold BZ at h1;unfold AB.Dl at hc;split at hc
  ·rename_i hk'
   simp only [hk'] at h1;obtain ⟨cs,h3,h4⟩:=h1;exact ⟨cs,h3,h4,h2.1⟩
  ·cases hc
 have vecAt:∀(k es i:Nat) (c:List LV) (t:TypeId) (e:Ty) (l:List e.D) (p:Bool),H[k]? =ah ⟨c,t,.vec e l,p⟩->(β k).cap≠aj->e.n=es->i<M l->∀q,q<es->∃z,w.cell? ⟨(β k).b,(β k).o+i*es+q,aj⟩=ah z/\R β Z w ((Bn e<|l.getD i e.dflt).getD q .junk) z:=λk es i c t e l p hb hcap hes hi q hq=>by
  have h1:=(hW.blk k _ hb).1
  simp only [BZ] at h1;split at h1
  ·exact xy
  ·obtain ⟨cs,_,_,_,h4⟩:=h1
   have h5:=h4 i _<|getD_at hi
   subst hes;exact Wo e _ _ _ h5 q _<|getD_lt (by rw [K4];exact hq)
 unfold FH at h;split at h
 ·rename_i n hag hsz
  have e1:=λw=>bz hag w
  have e2:=λw=>run_sizeOf hsz w
  split at h
  ·rename_i k off
   split at h
   ·rename_i b hb
    split at h
    ·rename_i hle
     simp only [T.all] at h;obtain ⟨cs,hc,hrl,hok⟩:=ownCl k b hb hle.1;simp only [R] at hr
     have hlen:=RL.length hrl
     have hn:M ((b.c.drop off).take n)=n:=D2
     obtain ⟨zs,f1,f2,f3⟩:=ot (P:=P) (β:=β) (Z:=Z) (w:=w) (b:=(β k).b) (off:=off) (L:=(b.c.drop off).take n) hn (λq hq=>by
      have hlt:off+q<M b.c:=A0
      obtain ⟨z,h1,h2⟩:=RL.get _ _ hrl<|DQ hlt;refine ⟨z,aNN,?_⟩
      have:((b.c.drop off).take n).getD q .junk=b.c[off+q]:=by
       grind
      rw [this];exact h2)
     refine ⟨.agg zs.toArray,λw' hw'=>?_,?_,?_⟩
     ·have:=f3 w' (hw' (β k).b<|.inr ⟨k,Ie,rfl⟩)
      simp [Instr.loadAt,Instr.sureAddr,hr,loadVar,e1,e2,this]
     ·exact xr
     ·rw [<-h];exact QB<|hok.take_drop off n
    ·cases h
   ·cases h
  ·rename_i m f
   split at h
   ·rename_i hle
    simp only [T.all] at h;simp only [R] at hr;obtain ⟨b,off,e3,hz,e4⟩:=hr;simp only [okV] at hk
    obtain ⟨zs,f1,f2,f3⟩:=ot (P:=P) (β:=β) (Z:=Z) (w:=w) (b:=b) (off:=off) (L:=(au n).map f) (n:=n) AI (λq hq=>by
     obtain ⟨z,h1,h2⟩:=e4 q A0;exact ⟨z,h1,by simpa [List.getD,hq] using h2⟩)
    refine ⟨.agg zs.toArray,λw' hw'=>?_,?_,?_⟩
    ·have:=f3 w' (hw' b<|.inl hz)
     simp [Instr.loadAt,Instr.sureAddr,e3,loadVar,e1,e2,this]
    ·exact xr
    ·rw [<-h]
     refine QB<|AS.CQ λi x hx=>?_
     have hi:i<n:=by have:=(Dv.1 hx).1;simpa using this
     have:x=f i:=by simpa [hi] using hx.symm
     rw [this];exact okV.mono (N9 _) _<|hk i
   ·cases h
  ·rename_i k es i j
   split at h
   ·rename_i c t' e l p hb
    split at h
    ·rename_i hle
     simp only [T.all] at h;obtain ⟨hi,h⟩:=h;simp only [R] at hr
     have hva:=vecAt k es i c t' e l p hb hr.1 hle.1 hi
     have hlen:M (Bn e<|l.getD i e.dflt)=es:=by rw [K4];exact hle.1
     obtain ⟨zs,f1,f2,f3⟩:=ot (P:=P) (β:=β) (Z:=Z) (w:=w) (b:=(β k).b) (off:=(β k).o+i*es+j) (L:=((Bn e<|l.getD i e.dflt).drop j).take n) (n:=n) (by rw [MC,F7,hlen];omega) (λq hq=>by
      obtain ⟨z,h1,h2⟩:=hva (j+q) A0;refine ⟨z,by rw [HV _ j q];exact h1,?_⟩
      have:(((Bn e<|l.getD i e.dflt).drop j).take n).getD q .junk=(Bn e<|l.getD i e.dflt).getD (j+q) .junk:=by
       generalize Bn e (l.getD i e.dflt)=L
       grind
      rw [this];exact h2)
     refine ⟨.agg zs.toArray,λw' hw'=>?_,?_,?_⟩
     ·have:=f3 w' (hw' (β k).b<|.inr ⟨k,Ie,rfl⟩)
      simp [Instr.loadAt,Instr.sureAddr,hr.2,loadVar,e1,e2,this]
     ·exact xr
     ·rw [<-h];exact QB<|(NT _ e _).take_drop j n
    ·cases h
   ·cases h
  ·cases h
 ·rename_i _ hag
  have e1:=λw=>bz hag w
  split at h
  ·rename_i k off
   split at h
   ·rename_i b hb
    split at h
    ·rename_i hcl
     split at h
     ·rename_i z hz
      simp only [T.all] at h;obtain ⟨cs,hc,hrl,hok⟩:=ownCl k b hb hcl;simp only [R] at hr;obtain ⟨q,h1,h2⟩:=RL.get _ _ hrl hz;refine ⟨q,λw' hw'=>?_,?_,?_⟩
      ·have:w'.cell? ⟨(β k).b,off,aj⟩=ah q:=by rw [cell_of_block (by rw [hw' (β k).b<|.inr ⟨k,Ie,rfl⟩];exact hc)];simpa using h1
       simp [Instr.loadAt,Instr.sureAddr,hr,loadVar,e1,this]
      ·rw [<-h];exact h2
      ·rw [<-h];exact AS.get _ _ hok hz
     ·cases h
    ·cases h
   ·cases h
  ·rename_i m f
   split at h
   ·rename_i hm
    simp only [T.all] at h;simp only [R] at hr;obtain ⟨b,off,e3,hz,e4⟩:=hr;obtain ⟨z,h1,h2⟩:=e4 0 hm;refine ⟨z,λw' hw'=>?_,?_,?_⟩
    ·have:w'.cell? ⟨b,off,aj⟩=ah z:=by rw [Q5 (w:=w) (w':=w')<|hw' b<|.inl hz];simpa using h1
     simp [Instr.loadAt,Instr.sureAddr,e3,loadVar,e1,this]
    ·rw [<-h];exact h2
    ·rw [<-h];simp only [okV] at hk;exact okV.mono (N9 _) _<|hk 0
   ·cases h
  ·rename_i k es i j
   split at h
   ·rename_i c t' e l p hb
    split at h
    ·rename_i hes
     simp only [T.all] at h;obtain ⟨hi,h⟩:=h;split at h
     ·rename_i q hq
      simp only [T.all] at h;simp only [R] at hr
      have hj:j<es:=by
       have:=(Dv.1 hq).1
       rw [K4] at this;omega
      obtain ⟨z,h1,h2⟩:=vecAt k es i c t' e l p hb hr.1 hes hi j hj
      have hqq:(Bn e<|l.getD i e.dflt).getD j .junk=q:=Dw<|(getD_lt (Dv.1 hq).1).symm.trans hq
      rw [hqq] at h2;refine ⟨z,λw' hw'=>?_,?_,?_⟩
      ·have:w'.cell? ⟨(β k).b,(β k).o+i*es+j,aj⟩=ah z:=by rw [Q5 (w:=w) (w':=w')<|hw' (β k).b<|.inr ⟨k,Ie,rfl⟩];exact h1
       simp [Instr.loadAt,Instr.sureAddr,hr.2,loadVar,e1,this]
      ·rw [<-h];exact h2
      ·rw [<-h];exact AS.get _ _ (NT _ e _) hq
     ·cases h
    ·cases h
   ·cases h
  ·cases h
 ·cases h
end Go.Sx
namespace Go.Sx
open Go.Proofs.YtipodhghjclmbaaGreatDoor
open Go Go.RowKit
variable {P : Program} {G : B1} {Γ : Specs} {β : Nat -> Loc} {Z : Nat -> Prop} {Z0 : Gz} {w w0 : World} {F : List LV} {H : List AB} {a : Act}
def oa {z:Value}(h:Jl z=U):z.oneCell'=true:=by cases z<;>first|rfl|(simp [Jl] at h)
theorem aBt (w:World) (g:Nat) (cs:Array Value) (k:Nat) (h:k≠g):(w.setRow g cs).heap[k]? =w.heap[k]? :=by
 simp only [World.setRow,Array.getElem?_modify]
 grind
def RL.app:∀ {a b:List LV}{c d:List Value},RL β Z w a c->RL β Z w b d->RL β Z w (a++b) (c++d)
 | [],_,_,_,h,h'=>by simp only [RL] at h;subst h;simpa using h'
 |x::xs,_,_,d,h,h'=>by
  obtain ⟨y,zs,rfl,h3,h4⟩:=h;exact ⟨y,zs++d,rfl,h3,RL.app h4 h'⟩
def RL.drop {l:List LV}{ys:List Value}(h:RL β Z w l ys) (n:Nat):RL β Z w (l.drop n) (ys.drop n):=by
 refine RL.CQ (by simp [RL.length h]) λi z hz=>?_
 rw [F8] at hz|-;exact RL.get _ _ h hz
def RL.take {l:List LV}{ys:List Value}(h:RL β Z w l ys) (n:Nat):RL β Z w (l.take n) (ys.take n):=by simpa using h.take_drop 0 n
def RL.setAt {l cs:List LV}{ys zs:List Value}(h1:RL β Z w l ys) (h2:RL β Z w cs zs) (off:Nat):RL β Z w (setAt l off cs) (ys.take off++zs++ys.drop (off+M zs)):=by
 have e2:=RL.length h2
 rw [e2];exact RL.app (RL.app (h1.take off) h2)<|h1.drop _
def AS.append {n:Nat}:∀ {a b:List LV},AS n a->AS n b->AS n (a++b)
 | [],_,_,h=>h
 |_::_,_,h,h'=>⟨h.1,AS.append h.2 h'⟩
def AS.drop {n:Nat}{l:List LV}(h:AS n l) (m:Nat):AS n (l.drop m):=by
 refine AS.CQ λi x hx=>?_
 rw [F8] at hx;exact AS.get _ _ h hx
def AS.setAt {n:Nat}{l cs:List LV}(h1:AS n l) (h2:AS n cs) (off:Nat):AS n (setAt l off cs):=by
 refine AS.append (AS.append ?_ h2)<|h1.drop _
 have:=h1.take_drop 0 off;simpa using this
theorem nw {α:Type}{f:LV->Option α}{l:List LV}{d:α}(h:hd1 f l=ah d):∃x,l=[x]/\f x=ah d:=by
 unfold hd1 at h;exact ko
def ato {a b:Ty}(h:a=b) (l:List a.D) {y:Value}:R β Z w (.xl b<|KX h l) y↔R β Z w (.xl a l) y:=by subst h;rfl
theorem tl {e:Ty}{x:LV}{l:List e.D}{y:Value}(h:N0 e x=ah l) (hr:R β Z w x y):R β Z w (.xl e l) y:=by
 unfold N0 at h;split at h
 ·split at h
  ·rename_i q h'
   simp only [Ah] at h;subst h;exact (ato q _).2 hr
  ·cases h
 ·simp only [Ah] at h
  simp only [R] at hr|-
  grind
 ·cases h
theorem tn {Z':Nat->Prop}{w':World}(hZ:∀b,Z b->Z' b) (hw:∀b,Z b->w'.heap[b]? =w.heap[b]?):∀(t:Ty) (cs:List LV) (d:t.D) (ys:List Value),Ji t cs=ah d->RL β Z w cs ys->∀(b o:Nat),(∀(j:Nat) v,ys[j]? =ah v->w'.cell? ⟨b,o+j,aj⟩=ah v)->RD Z' w' t d b o:=by
 have one:∀ {l:List LV} {ys:List Value} {x:LV},l=[x]->RL β Z w l ys->∀ {b o:Nat},(∀(j:Nat) v,ys[j]? =ah v->w'.cell? ⟨b,o+j,aj⟩=ah v)->∃y,R β Z w x y/\w'.cell? ⟨b,o,aj⟩=ah y:=by
  intro l ys x hl hr b o hc;subst hl;simp only [RL] at hr;obtain ⟨y,zs,rfl,h1,_⟩:=hr;exact ⟨y,h1,hc 0 y rfl⟩
 intro t
 induction t with
 | int k=>
  intro cs d ys h hr b o hc;obtain ⟨x,hl,hx⟩:=nw h;obtain ⟨y,h1,h2⟩:=one hl hr hc;simp only [RD];rw [h2];unfold wM at hx;split at hx
  ·exact aKq
  ·exact aKq
  ·cases hx
 |bool=>
  intro cs d ys h hr b o hc;obtain ⟨x,hl,hx⟩:=nw h;obtain ⟨y,h1,h2⟩:=one hl hr hc;simp only [RD];rw [h2];unfold wN at hx;split at hx
  ·exact xf
  ·exact xf
  ·cases hx
 |str=>
  intro cs d ys h hr b o hc;obtain ⟨x,hl,hx⟩:=nw h;obtain ⟨y,h1,h2⟩:=one hl hr hc;simp only [RD];rw [h2];unfold wL at hx;split at hx
  ·exact xf
  ·cases hx
 |sl e _=>
  intro cs d ys h hr b o hc;obtain ⟨x,hl,hx⟩:=nw h;obtain ⟨y,h1,h2⟩:=one hl hr hc
  have h3:=tl hx h1
  simp only [R] at h3;obtain ⟨a,cap,g1,g2,g3⟩:=h3;simp only [RD];refine ⟨a,cap,by rw [h2,g1],g2,λhn=>?_⟩
  obtain ⟨b',o',g4,g5,g6⟩:=g3 hn;exact ⟨b',o',g4,hZ _ g5,λi d hd=>RD.mono hZ hw e d b' _ g5<|g6 i d hd⟩
 | pair p q ihp ihq=>
  intro cs d ys h hr b o hc;simp only [Ji] at h;split at h
  ·rename_i x y hx hy
   simp only [Ah] at h;subst h;simp only [RD];refine ⟨ihp _ x _ hx (hr.take p.n) b o λj v hv=>?_,ihq _ y _ hy (hr.drop p.n) b (o+p.n) λj v hv=>?_⟩
   ·exact aMU
   ·rw [F8] at hv
    grind
  ·cases h
def ae3 {t:TypeId} {x q:LV} {y z:Value} {H':List AB} (hW:RW G w0 Z0 Z β H w) (h:(TS P H t x q).all λr=>r=H') (hr:R β Z w x y) (hq:R β Z w q z) (hqk:okV (M H) q):
  ∃w',(Instr.storeAt t y z).run P w=.ok () w'/\RW G w0 Z0 Z β H' w'/\M H'=M H/\(∀b,Z b->w'.heap[b]? =w.heap[b]?)/\DL (DN β H<|owns x) w w':=by
 unfold TS at h;split at h
 ·rename_i n cs hsz hcs
  have e2:=λw=>run_sizeOf hsz w
  obtain ⟨c1,c2⟩:=nq hcs hq
  have c3:=nT hcs hqk
  have hlen2:=RL.length c1
  split at h
  ·rename_i k off
   split at h
   ·rename_i b hb
    split at h
    ·rename_i hle
     obtain ⟨hcl,hbp,hl1,hl2⟩:=hle;simp only [T.all] at h
     have hbk:b.k=.cl:=by
      unfold AB.Dl at hcl;split at hcl
      ·assumption
      ·cases hcl
     have hlive:live β k b:=by unfold live;rw [hbk];trivial
     obtain ⟨h1,h2⟩:=hW.blk k b hb;unfold BZ at h1;simp only [hbk] at h1;obtain ⟨cur,hc,hrl⟩:=h1
     have hlen:=RL.length hrl
     simp only [R] at hr
     have hst:=xI P (β k).b off b.t z.cells.toList 0 cur w hc (by simp at hlen;omega) λv hv=>oa<|c2 v hv
     have e3:z.cells.size=n:=by simp at hlen2;omega
     have hne:∀j,j≠(β k).b->(w.setRow (β k).b (cur.toList.take (off+0)++z.cells.toList++cur.toList.drop (off+0+M z.cells.toList)).toArray).heap[j]? =w.heap[j]? :=λj hj=>aBt w _ _ _ hj
     refine ⟨w.setRow (β k).b (cur.toList.take (off+0)++z.cells.toList++cur.toList.drop (off+0+M z.cells.toList)).toArray,by simp [Instr.storeAt,Instr.sureAddr,hr,storeVar,e2,e3,hst],?_,by rw [<-h];simp,λb' hz=>hne b' λe=>hW.Cf k b hb hlive hbp<|e▸hz,⟨rfl,rfl,rfl,VO,λi _ hi=>hne i λe=>hi<|e▸TN hb hlive hbp⟩⟩
     rw [<-h];refine hW.set hb hlive hbp hbp ⟨AS.setAt h2.1 c3 off,by simp only [hbk]⟩ VO ⟨rfl,rfl,rfl⟩ hne ?_
     unfold BZ;simp only [hbk];refine ⟨_,setRow_heap w (β k).b cur _ b.t _ hc,?_⟩;refine RL.mono (n:=M H) (λ_ _=>rfl) (λ_ h=>h) (λb' hz=>hne b' λe=>hW.Cf k b hb hlive hbp<|e▸hz) _ _ (AS.setAt h2.1 c3 off) ?_
     have:=RL.setAt (β:=β) (Z:=Z) (w:=w) hrl c1 off
     exact Py
    ·cases h
   ·cases h
  ·rename_i k es i j
   split at h
   ·rename_i c0 bt e l hb
    split at h
    ·rename_i hle
     obtain ⟨hes,hl1,hl2⟩:=hle;simp only [T.all] at h;obtain ⟨hi,h⟩:=h;split at h
     ·rename_i d hd
      simp only [T.all] at h;simp only [R] at hr;obtain ⟨hcap,hy⟩:=hr
      have hlive:live β k ⟨c0,bt,.vec e l,X⟩:=hcap
      obtain ⟨h1,h2⟩:=hW.blk k _ hb;simp only [BZ] at h1;split at h1
      ·exact xy
      ·rename_i c hc
       obtain ⟨cur,g1,g2,g3,g4⟩:=h1;subst hes
       have hmul:i*e.n+e.n<=c*e.n:=by
        have:=N8 e.n (show i+1<=c by omega)
        rwa [Fz,Sd] at this
       have e3:z.cells.size=n:=by simp at hlen2;omega
       have hzl:M z.cells.toList=n:=by simpa using e3
       have hst:=xI P (β k).b ((β k).o+i*e.n+j) bt z.cells.toList 0 cur w g1 (by rw [hzl];omega) λv hv=>oa<|c2 v hv
       simp only [ZQ] at hst;generalize hnew:(cur.toList.take ((β k).o+i*e.n+j)++z.cells.toList++cur.toList.drop ((β k).o+i*e.n+j+M z.cells.toList)).toArray=new at hst
       have hnget:∀p,new[p]? =if p<(β k).o+i*e.n+j then cur[p]? else if p<(β k).o+i*e.n+j+n then z.cells.toList[p-((β k).o+i*e.n+j)]? else cur[p]? :=λp=>by
        rw [<-hnew]
        by_cases q1:p<(β k).o+i*e.n+j
        ·exact aLp
        ·rw [AE q1]
         simp only [ZG]
         by_cases q2:p<(β k).o+i*e.n+j+n
         ·exact aLk
         ·rw [AE q2,GL D2,F8]
          have:(β k).o+i*e.n+j+M z.cells.toList+(p-M (cur.toList.take ((β k).o+i*e.n+j)++z.cells.toList))=p:=by
           simp
           omega
          rw [this]
          simp
       have hnsz:new.size=cur.size:=by
        rw [<-hnew]
        simp
        omega
       have hne:∀q,q≠(β k).b->(w.setRow (β k).b new).heap[q]? =w.heap[q]? :=λq hq=>aBt w _ _ _ hq
       have hZw:∀b',Z b'->(w.setRow (β k).b new).heap[b']? =w.heap[b']? :=λb' hz=>hne b' λe=>hW.Cf k _ hb hlive rfl<|e▸hz
       have hblk:=setRow_heap w (β k).b cur new bt _ g1
       refine ⟨w.setRow (β k).b new,by simp [Instr.storeAt,Instr.sureAddr,hy,storeVar,e2,e3,hst],?_,by rw [<-h];simp,hZw,⟨rfl,rfl,rfl,VO,λq _ hq=>hne q λe=>hq<|e▸TN hb hlive rfl⟩⟩
       rw [<-h];refine hW.set hb hlive rfl rfl ⟨ak,ak⟩ VO ⟨rfl,rfl,rfl⟩ hne ?_;simp only [BZ,hc];refine ⟨new,hblk,A0,by rw [CH];exact g3,λi' d' hd'=>?_⟩
       by_cases hii:i'=i
       ·subst hii
        have hdd:d'=d:=by
         rw [List.getElem?_set_self<|by exact hi] at hd'
         simpa using hd'.symm
        subst hdd
        have hcells:∃ys,RL β Z w (Bn e<|l.getD i' e.dflt) ys/\∀p,ys[p]? =if p<e.n then cur[(β k).o+i'*e.n+p]? else none:=by
         have hrd:=g4 i' _<|getD_at hi
         refine ⟨((cur.toList.drop<|(β k).o+i'*e.n).take e.n),RL.CQ ?_ λp x hx=>?_,λp=>?_⟩
         ·rw [K4];simp;omega
         ·obtain ⟨v,q1,q2⟩:=Wo (β:=β) e _ _ _ hrd p x hx
          have hp:p<e.n:=by have:=(Dv.1 hx).1;rwa [K4] at this
          refine ⟨v,?_,q2⟩;rw [cell_of_block g1] at q1;rw [Kz,AD hp,F8]
          simpa using q1
         ·rw [Kz,F8]
          simp
        obtain ⟨ys,y1,y2⟩:=hcells
        have hset:=RL.setAt y1 c1 j
        refine tn (λ_ h=>h) hZw e _ d' _ hd hset _ _ λp v hv=>?_
        rw [cell_of_block hblk,hnget]
        have hyl:M ys=e.n:=by have:=RL.length y1;rw [K4] at this;exact this
        by_cases p1:p<j
        ·rw [AD A0]
         rw [Cl,HW D2,aKU p1,y2] at hv;rw [AD A0] at hv;exact hv
        ·by_cases p2:p<j+n
         ·rw [AE A0,AD A0]
          rw [HW D2,GL D2] at hv;rw [<-hv]
          congr 1
          simp
          omega
         ·rw [AE A0,AE A0]
          rw [GL D2,F8,y2] at hv;split at hv
          ·rw [<-hv]
           congr 1
           simp
           omega
          ·cases hv
       ·rw [ZL<|OZ hii] at hd'
        refine RD.cells (λ_ h=>h) hZw e d' _ _ (λp hp=>?_)<|g4 i' d' hd'
        rw [cell_of_block hblk,cell_of_block g1,hnget]
        have hsep:i'*e.n+e.n<=i*e.n\/i*e.n+e.n<=i'*e.n:=by
         rcases Pp i' i with hlt|hge
         ·left
          have:=N8 e.n (show i'+1<=i by omega)
          rwa [Fz,Sd] at this
         ·right
          have:=N8 e.n (show i+1<=i' by omega)
          rwa [Fz,Sd] at this
        split
        ·rfl
        ·rw [AE A0]
     ·cases h
    ·cases h
   ·cases h
  ·cases h
 ·cases h
end Go.Sx
namespace Go.Sx
open Go.Proofs.YtipodhghjclmbaaGreatDoor
open Go Go.RowKit
variable {P : Program} {G : B1} {Γ : Specs} {β : Nat -> Loc} {Z : Nat -> Prop} {Z0 : Gz} {w w0 : World} {F : List LV} {H : List AB} {a : Act}
theorem RD.move {Z Z':Nat->Prop}{w w':World}(hZ:∀b,Z b->Z' b) (hw:∀b,Z b->w'.heap[b]? =w.heap[b]?):
  ∀(t:Ty) (d:t.D) (b o b' o':Nat),(∀j,j<t.n->w'.cell? ⟨b',o'+j,aj⟩=w.cell? ⟨b,o+j,aj⟩)->RD Z w t d b o->RD Z' w' t d b' o'
 | .int _,_,b,o,b',o',hb,h=>VJ
 | .bool,_,b,o,b',o',hb,h=>VJ
 | .str,_,b,o,b',o',hb,h=>VJ
 | .sl e,l,b,o,b',o',hb,h=>by
  exact aLE
 | .pair x y,d,b,o,b',o',hb,h=>by
  refine ⟨RD.move hZ hw x d.1 b o b' o' (λj hj=>hb j lL) h.1,RD.move hZ hw y d.2 b _ b' _ (λj hj=>?_) h.2⟩
  have:=hb (x.n+j) lL
  grind
theorem RD.one {Z:Nat->Prop}{w:World}:∀(t:Ty) (d:t.D) (b o:Nat),RD Z w t d b o->∀j,j<t.n->∃v,w.cell? ⟨b,o+j,aj⟩=ah v/\Jl v=U
 | .int _,_,b,o,h,j,hj=>by
  exact xb
 | .bool,_,b,o,h,j,hj=>by
  exact xb
 | .str,_,b,o,h,j,hj=>by
  exact xb
 | .sl e,_,b,o,h,j,hj=>by
  simp only [Ty.n] at hj
  have:j=0:=A0
  subst this;obtain ⟨a,cap,h1,_⟩:=h;exact ⟨_,h1,rfl⟩
 | .pair x y,d,b,o,h,j,hj=>by
  simp only [Ty.n] at hj
  by_cases hx:j<x.n
  ·exact RD.one x d.1 b o h.1 j hx
  ·obtain ⟨v,h1,h2⟩:=RD.one y d.2 b (o+x.n) h.2 (j-x.n) A0
   grind
def Ty.n_pos:∀t:Ty,0<t.n
 | .int _=>Zs
 | .bool=>Zs
 | .str=>Zs
 | .sl _=>Zs
 | .pair a b=>by have:=Ty.n_pos a;simp only [Ty.n];omega
theorem aDb {e:Ty}{l:List e.D}{b o:Nat}(h:∀(i:Nat) (d:e.D),l[i]? =ah d->RD Z w e d b (o+i*e.n)):
  ∃vs:List Value,M vs=M l*e.n/\(∀j,j<M l*e.n->w.cell? ⟨b,o+j,aj⟩=vs[j]?)/\(∀u∈vs,Jl u=U):=by
 have hp:=e.n_pos
 have hch:∀j,∃v,j<M l*e.n->w.cell? ⟨b,o+j,aj⟩=ah v/\Jl v=true:=λj=>by
  by_cases hj:j<M l*e.n
  ·have hi:=Nat.div_lt_of_lt_mul (by rw [Nat.mul_comm];exact hj)
   have hd:=h (j / e.n) _<|getD_at hi
   obtain ⟨v,h1,h2⟩:=RD.one e _ _ _ hd (j%e.n)<|Nat.mod_lt _ hp;refine ⟨v,λ_=>⟨?_,h2⟩⟩
   have:=Nat.div_add_mod j e.n
   grind
  ·exact ⟨undef,λh=>absurd h hj⟩
 obtain ⟨g,hg⟩:=xN hch;refine ⟨(au<|M l*e.n).map g,AI,λj hj=>?_,λu hu=>?_⟩
 ·grind
 ·obtain ⟨j,hj,rfl⟩:=Ej.1 hu
  grind
theorem aEc {Z':Nat->Prop}{w':World}(hZ:∀b,Z b->Z' b) (hw:∀b,Z b->w'.heap[b]? =w.heap[b]?) {e:Ty}{l:List e.D}{b o b' o':Nat}(h:∀(i:Nat) (d:e.D),l[i]? =ah d->RD Z w e d b (o+i*e.n)) {vs:List Value}
  (hv:∀j,j<M l*e.n->w.cell? ⟨b,o+j,aj⟩=vs[j]?) (hc:∀j,j<M l*e.n->w'.cell? ⟨b',o'+j,aj⟩=vs[j]?):∀(i:Nat) (d:e.D),l[i]? =ah d->RD Z' w' e d b' (o'+i*e.n):=λi d hd=>by
 have hi:=(Dv.1 hd).1
 refine RD.move hZ hw e d b (o+i*e.n) b' (o'+i*e.n) (λj hj=>?_)<|h i d hd
 have hlt:i*e.n+j<M l*e.n:=by
  have:=N8 e.n (show i+1<=M l by omega)
  rw [Fz,Sd] at this;omega
 grind
theorem aob {e:Ty}{x:LV}{q:List e.D}{y:Value}(hW:RW G w0 Z0 Z β H w) (h:(FF H e x).all λz=>z=q) (hr:R β Z w x y):
  ∃a c,y=.slice a (M q) c/\(0<M q->∃b o,a=ah ⟨b,o,aj⟩/\∀(i:Nat) (d:e.D),q[i]? =ah d->RD Z w e d b (o+i*e.n)):=by
 have gen:∀x,N0 e x=ah q->R β Z w x y->∃a c,y=.slice a (M q) c/\(0<M q->∃b o,a=ah ⟨b,o,aj⟩/\∀(i:Nat) (d:e.D),q[i]? =ah d->RD Z w e d b (o+i*e.n)):=λx hx hr=>by
  have h1:=tl hx hr
  obtain ⟨a,c,h1,_,h3⟩:=h1;refine ⟨a,c,h1,λhn=>?_⟩
  grind
 have hdx:∀ {x:LV},(match N0 e x with|some l=>(T.ok l:T<|List e.D) |none=> .no).all (λz=>z=q)->N0 e x=ah q:=λ{x} h=>by
  split at h
  ·rename_i hd;simp only [T.all] at h;rw [hd,h]
  ·cases h
 cases x with
 | os k es off n=>
  simp only [FF] at h;split at h
  ·rename_i c0 bt e' l pp hb
   split at h
   ·rename_i hes
    split at h
    ·rename_i he _
     subst he;simp only [T.all,KX] at h;obtain ⟨hle,h⟩:=h;subst h
     have hlen:M ((l.drop off).take n)=n:=A8
     rw [hlen];simp only [R] at hr;split at hr
     ·obtain ⟨rfl,_,hy⟩:=hr
      grind
     ·rename_i c hc
      obtain ⟨h1,a,h2,h3⟩:=hr;refine ⟨ah a,c-off,h2,λhn=>?_⟩
      have h4:=(hW.blk k _ hb).1
      simp only [BZ,hc] at h4;obtain ⟨cs,g1,g2,g3,g4⟩:=h4;refine ⟨_,_,by rw [h3 A0],λi d hd=>?_⟩
      rw [Kz] at hd;split at hd
      ·rw [F8] at hd
       have:=g4 (off+i) d hd
       rw [<-hes];rw [Fz,<-HV] at this;exact this
      ·cases hd
    ·cases h
   ·cases h
  ·cases h
 |v x=>simp only [FF] at h;exact gen _ (hdx h) hr
 |bl x=>simp only [FF] at h;exact gen _ (hdx h) hr
 |ki k n=>simp only [FF] at h;exact gen _ (hdx h) hr
 |own k off=>simp only [FF] at h;exact gen _ (hdx h) hr
 |agg l=>simp only [FF] at h;exact gen _ (hdx h) hr
 |AO l=>simp only [FF] at h;exact gen _ (hdx h) hr
 |fn f l=>simp only [FF] at h;exact gen _ (hdx h) hr
 |fb f l=>simp only [FF] at h;exact gen _ (hdx h) hr
 |xq n f=>simp only [FF] at h;exact gen _ (hdx h) hr
 |xl e l=>simp only [FF] at h;exact gen _ (hdx h) hr
 |op k es i j=>simp only [FF] at h;exact gen _ (hdx h) hr
 |om k=>simp only [FF] at h;exact gen _ (hdx h) hr
 |mp kd ks vs=>simp only [FF] at h;exact gen _ (hdx h) hr
 |oc k es off n c=>simp only [FF] at h;exact gen _ (hdx h) hr
 |CK k=>simp only [FF] at h;exact gen _ (hdx h) hr
 |junk=>simp only [FF] at h;exact gen _ (hdx h) hr
def nK {t e:TypeId}{ty:Ty}{m F4:Nat}(h:PI P t=ah (e,ty,m,F4)):P.underlying t=ah (.slice e)/\ty.n=m/\∃i,P.info? e=ah i/\i.size=m/\i.bytes=F4:=by
 unfold PI at h;split at h
 ·rename_i e' hu
  split at h
  ·rename_i ty' m' b' h1 h2 h3
   split at h
   ·rename_i hm
    simp only [Ah,Ax] at h;obtain ⟨rfl,rfl,rfl,rfl⟩:=h;refine ⟨hu,hm.1,?_⟩;unfold H3 at h2;unfold aRj at h3;cases hi:P.info? e' with
    |none=>simp [hi] at h2
    |some i=>simp [hi] at h2 h3;exact ⟨i,rfl,h2,h3⟩
   ·cases h
  ·cases h
 ·cases h
theorem aDV {e:Ty}{x:LV}{q:List e.D}{y:Value}{tx e':TypeId}(hk:P.underlying tx=ah (.slice e')) (hW:RW G w0 Z0 Z β H w) (h:(FF H e x).all λz=>z=q) (hr:R β Z w x y):
  ∃news:List Value,Src P e.n tx y (M q) news w/\∀(Z':Nat->Prop) (w':World) (b' o':Nat),(∀b,Z b->Z' b)->(∀b,Z b->w'.heap[b]? =w.heap[b]?)->(∀j,j<M news->w'.cell? ⟨b',o'+j,aj⟩=news[j]?)->∀(i:Nat) (d:e.D),q[i]? =ah d->RD Z' w' e d b' (o'+i*e.n):=by
 obtain ⟨a,c,h1,h2⟩:=aob hW h hr
 by_cases hn:0<M q
 ·obtain ⟨b,o,h3,h4⟩:=h2 hn
  obtain ⟨vs,v1,v2,v3⟩:=aDb h4;refine ⟨vs,?_,λZ' w' b' o' hZ hw hc=>aEc hZ hw h4 v2 λj hj=>hc j A0⟩
  rw [h1,h3]
  exact Src.ofSlice w hk ⟨b,o,aj⟩ _ c vs v1 (λj u hu=>by
   have hj:j<M q*e.n:=A8
   rw [addr_add,v2 j hj,hu]) λu hu=>oa<|v3 u hu
 ·have hq:q=[]:=MA.1 A0
  subst hq;refine ⟨[],?_,λZ' w' b' o' hZ hw hc i d hd=>A8⟩
  rw [h1];cases a with
  |none=>exact Src.ofNil w hk c
  |some a=>exact Src.ofSlice w hk a 0 c [] AI (λj u hu=>A8) λu hu=>by cases hu
def afY {ty:Ty}{z:Value}{d:ty.D}(hd:Ji ty (z.cells.toList.map .v)=ah d) {w':World}{b o:Nat}(hc:∀(j:Nat) v,z.cells.toList[j]? =ah v->w'.cell? ⟨b,o+j,aj⟩=ah v):RD Z w' ty d b o:=
 tn (Z:=Z) (w:=w') (β:=λ_=>default) (λ_ h=>h) (λ_ _=>rfl) ty _ d _ hd (Uf _) b o hc
theorem aeK {t:TypeId} {n c lv:LV} {vn vc:Value} {H':List AB} (hW:RW G w0 Z0 Z β H w) (h:(U8 P H t n c).all λq=>q=(lv,H')) (hn:R β Z w n vn) (hc:R β Z w c vc):
  ∃w' v,(Instr.makeSlice t vn vc).run P w=.ok v w'/\Below w.heap.size w w'/\∃β',(∀k,k<M H->β' k=β k)/\RW G w0 Z0 Z β' H' w'/\R β' Z w' lv v/\okV (M H') lv/\M H'=M H+1/\(β'<|M H).b=w.heap.size:=by
 unfold U8 at h;split at h
 ·rename_i e ty m F4 n' c' he hn' hc'
  obtain ⟨hu,htn,i,hi,him,hib⟩:=nK he;split at h
  ·rename_i z hz
   split at h
   ·rename_i d hd
    split at h
    ·rename_i hzs
     simp only [T.all] at h;obtain ⟨⟨h0,h1,h2,h3⟩,h4⟩:=h;obtain ⟨rfl,rfl⟩:=h4
     have hzi:i.zero=ah z:=aN1
     have hrun:=run_make (P:=P) w t e i z hu hi hzi J J n' c' h0 h1 (by rw [hib];simpa using h2) A0
     rw [Cb hn' hn,Cb hc' hc]
     have hbw:Below w.heap.size w (w.alloc<|.cells (madeCells z.cells<|c'.toNat*i.size) e):=(Below.refl _ _).alloc (Ar _) _
     have hblk:(w.alloc<|.cells (madeCells z.cells<|c'.toNat*i.size) e).heap[w.heap.size]? =ah (.cells (madeCells z.cells<|c'.toNat*i.size) e (0,0)):=by
      exact Zg
     obtain ⟨β',b1,b2,b3⟩:=(hW.same hbw).KO (ℓ:=⟨w.heap.size,0,ah c'.toNat⟩) (nb:=⟨[],e,.vec ty<|aq n'.toNat d,X⟩) rfl ⟨ak,ak⟩
      (λ_=>⟨λhz=>Zw,hW.below.size,λj bj hj lj e=>Sm⟩) (λβ' g1 g2=>by
       simp only [BZ,g2];refine ⟨_,hblk,by simp [madeCells,htn,him],D2,λj d' hd'=>?_⟩
       have hj:j<n'.toNat:=A8
       have hdd:d'=d:=A8
       subst hdd;refine afY hd λp v hv=>?_
       have hp:p<m:=A8
       rw [cell_of_block hblk]
       have hlt:0+j*ty.n+p<c'.toNat*i.size:=by
        have:=N8 m (show j+1<=c'.toNat by omega)
        rw [Fz,Sd] at this;rw [htn,him];omega
       rw [madeCells]
       have hv':z.cells[p]? =ah v:=by simpa using hv
       rw [htn,EM] at hlt|-;simp only [Array.getElem?_map,Array.getElem?_range];rw [AD hlt];simp only [JQ,hzs,Nat.mul_comm j m,Nat.mul_add_mod,Nat.mod_eq_of_lt hp];rw [getElem!_def,hv'])
     exact ⟨_,_,hrun,hbw,β',b1,b3,by simp only [R,b2];exact ⟨D2,⟨w.heap.size,0,aj⟩,AI,λ_=>AI⟩,MG,AI,VW⟩
    ·cases h
   ·cases h
  ·cases h
 ·cases h
theorem aeF {t:TypeId}{lv:LV}{H':List AB}(hW:RW G w0 Z0 Z β H w) (h:(Wp P H t).all λq=>q=(lv,H')):
  ∃w' v,(Instr.buildSlice t 0 #[]).run P w=.ok v w'/\Below w.heap.size w w'/\∃β',(∀k,k<M H->β' k=β k)/\RW G w0 Z0 Z β' H' w'/\R β' Z w' lv v/\okV (M H') lv/\M H'=M H+1/\(β'<|M H).b=w.heap.size:=by
 unfold Wp at h;split at h
 ·rename_i e ty m F4 he
  obtain ⟨hu,htn,i,hi,him,hib⟩:=nK he;obtain ⟨rfl,rfl⟩:=h
  have hbw:Below w.heap.size w (w.alloc<|.cells #[] e):=(Below.refl _ _).alloc (Ar _) _
  have hblk:(w.alloc<|.cells #[] e).heap[w.heap.size]? =ah (.cells #[] e (0,0)):=by
   exact Zg
  obtain ⟨β',b1,b2,b3⟩:=(hW.same hbw).KO (ℓ:=⟨w.heap.size,0,ah 0⟩) (nb:=⟨[],e,.vec ty [],X⟩) rfl ⟨ak,ak⟩
   (λ_=>⟨λhz=>Zw,hW.below.size,λj bj hj lj e=>Sm⟩) (λβ' g1 g2=>by
    simp only [BZ,g2];exact ⟨_,hblk,AI,AI,λj d hd=>A8⟩)
  have hsz:H3 P e=ah m:=by unfold H3;simp [hi,him]
  refine ⟨_,.slice (ah ⟨w.heap.size,0,aj⟩) 0 0,?_,hbw,β',b1,b3,by simp only [R,b2];exact ⟨AI,⟨w.heap.size,0,aj⟩,rfl,λh=>A8⟩,MG,AI,VW⟩
  have e1:=λw=>run_sizeOf hsz w
  have n1:¬(0>2^24):=Aa
  have ha:∀f:Nat->Value,(Array.range 0).map f=#[]:=λf=>AI
  simp only [Instr.buildSlice,kL,CV hu,jz,e1,k8,xG,newRow,AE n1,Bm,ha];rfl
 ·cases h
theorem RW.kill (hW:RW G w0 Z0 Z β H w) (k:Nat) (e:TypeId):RW G w0 Z0 Z β (H.set k ⟨[],e,.dead,X⟩) w:=by
 have old:∀i bi,(H.set k ⟨[],e,.dead,X⟩)[i]? =ah bi->(¬live β i bi/\BZ β Z w i bi/\okB (M H) bi)\/H[i]? =ah bi:=λi bi h=>by
  rw [I7] at h;split at h
  ·rename_i e'
   split at h
   ·simp only [Ah] at h;subst h;exact .inl ⟨λh=>h,ak,ak,ak⟩
   ·cases h
  ·exact .inr h
 refine ⟨hW.below,hW.Bb,hW.EX,λi bi hi li pi=>?_,λi bi hi li pi=>?_,λi bi hi li=>?_,λi j bi bj hi hj li lj pi e=>?_,λi bi hi=>?_,hW.CW,λp hp=>⟨(hW.gh p hp).1,aNs⟩,hW.Ci⟩
 ·rcases old i bi hi with h|h
  ·grind
  ·exact hW.Cf i bi h li pi
 ·rcases old i bi hi with h|h
  ·grind
  ·exact hW.G6 i bi h li pi
 ·rcases old i bi hi with h|h
  ·grind
  ·exact hW.low i bi h li
 ·rcases old i bi hi with h|h
  ·grind
  ·rcases old j bj hj with h'|h'
   ·grind
   ·exact hW.inj i j bi bj h h' li lj pi e
 ·rw [CH]
  rcases old i bi hi with h|h
  ·grind
  ·exact hW.blk i bi h
def RW.loose {w':World}{B:Nat}(hW:RW G w0 Z0 Z β H w) (hB:w0.heap.size<=B) (hBZ:¬Z B) (hBo:∀j bj,H[j]? =ah bj->live β j bj->(β j).b≠B)
  (hsz:w'.heap.size=w.heap.size) (hos:w'.os=w.os/\w'.tape=w.tape/\w'.output=w.output) (hne:∀j,j≠B->w'.heap[j]? =w.heap[j]?):RW G w0 Z0 Z β H w':=by
 have hw:∀b',Z b'->w'.heap[b']? =w.heap[b']? :=λb' hz=>hne b' λe=>hBZ<|e▸hz
 refine ⟨?_,λb' hz=>aNr,hW.EX,hW.Cf,hW.G6,hW.low,hW.inj,λi bi hi=>?_,hW.CW.mono (λ_ h=>h) hw,λp hp=>⟨R.mono (n:=M H) (λ_ _=>rfl) (λ_ h=>h) hw _ _ (hW.gh p hp).2 (hW.gh p hp).1,(hW.gh p hp).2⟩,λD hD=>⟨(hW.Ci D hD).1,Zq⟩⟩
 ·exact hW.below.trans ⟨hos.1,hos.2.1,hos.2.2,k7 hsz.symm,λi hi=>hne i A0⟩
 ·obtain ⟨g1,g2⟩:=hW.blk i bi hi
  exact ⟨g1.keep (λ_ _=>rfl) (λ_ h=>h) hw rfl (λli=>hne _<|hBo i bi hi li) g2,g2⟩
def adn (z:Array Value) (n:Nat):(Builtin.zeroCells z n).size=n*z.size:=by simp [Builtin.zeroCells]
def Back (Z:Nat->Prop) (w:World) (e:Ty) (l:List e.D) (vs:List Value):Prop:=
 ∀(Z':Nat->Prop) (w':World) (b' o':Nat),(∀b,Z b->Z' b)->(∀b,Z b->w'.heap[b]? =w.heap[b]?)->(∀j,j<M vs->w'.cell? ⟨b',o'+j,aj⟩=vs[j]?)->∀(i:Nat) (d:e.D),l[i]? =ah d->RD Z' w' e d b' (o'+i*e.n)
theorem aDK (hW:RW G w0 Z0 Z β H w) {t tx ty' e:TypeId}{i:TypeInfo}{z:Value}(hu:P.underlying t=ah (.slice e)) (hi:P.info? e=ah i) (hz:i.zero=ah z) {ty:Ty}(hts:i.size=ty.n) (hzs:z.cells.size=ty.n)
  {base:Option Addr} {sCap:Nat} {olds:List Value} {lo q:List ty.D} (hold:(Builtin.firstCells i.size (M lo)<|.slice base (M lo) sCap).run P w.drew=.ok olds.toArray w.drew) (hol:M olds=M lo*ty.n)
  (ob:Back Z w ty lo olds) {y:Value} {news:List Value} (hs:Src P ty.n tx y (M q) news w) (nb:Back Z w ty q news) (hg:sCap<M lo+M q)
  (h63:((M lo+M q:Nat):Int)<2^62) (hby:((M lo+M q:Nat):Int)*i.bytes<=2^47):
  ∃w' v,(Builtin.append_ #[t,tx] ty' #[.slice base (M lo) sCap,y]).run P w=.ok v w'/\Below w.heap.size w w'/\∃β',(∀k,k<M H->β' k=β k)/\RW G w0 Z0 Z β' (H++[⟨[],e,.vec ty<|lo++q,X⟩]) w'/\
   R β' Z w' (.os (M H) ty.n 0<|M lo+M q) v/\(β'<|M H).b=w.heap.size:=by
 have hnl:=hs.newsLen
 have hrun:=run_append_grow_src (P:=P) w t tx ty' e i z hu hi hz base (M lo) sCap olds hold y (M q) news (by rw [hts];exact hs) hg A0<|growslice_fits hg (by
  omega)
 have hcap:=grownCap_ge w (M lo+M q) sCap e
 generalize grownCap w (M lo+M q) sCap e=cap at hrun hcap;generalize hcs:((olds++news).toArray++Builtin.zeroCells z.cells (cap-(M lo+M q)))=cs at hrun
 have hbw:Below w.heap.size w (w.drew.alloc<|.cells cs e):=⟨rfl,rfl,rfl,by simp [World.alloc],λk hk=>heap_alloc_old w.drew _ hk⟩
 have hblk:(w.drew.alloc<|.cells cs e).heap[w.heap.size]? =ah (.cells cs e (0,0)):=heap_alloc_new w.drew _
 have hw:∀b,Z b->(w.drew.alloc<|.cells cs e).heap[b]? =w.heap[b]? :=λb hz=>Dx hbw<|hW.Bb b hz
 have hc1:∀j,j<M olds->cs[j]? =olds[j]? :=λj hj=>by
  rw [<-hcs,xK D2];simp only [ZG]
  grind
 have hc2:∀j,j<M news->cs[M olds+j]? =news[j]? :=λj hj=>by
  rw [<-hcs,xK D2];simp only [ZG];rw [GL A0]
  congr 1
  omega
 obtain ⟨β',b1,b2,b3⟩:=(hW.same hbw).KO (ℓ:=⟨w.heap.size,0,ah cap⟩) (nb:=⟨[],e,.vec ty<|lo++q,X⟩) rfl ⟨ak,ak⟩
  (λ_=>⟨λhz=>A8,hW.below.size,λj bj hj lj e=>Sm⟩) (λβ' g1 g2=>by
   simp only [BZ,g2];refine ⟨cs,hblk,?_,by rw [BF];omega,λj d hd=>?_⟩
   ·rw [<-hcs]
    have h1:cap*ty.n=(M lo+M q)*ty.n+(cap-(M lo+M q))*ty.n:=by
     rw [<-Fz];congr 1;omega
    simp only [Array.size_append,adn,hzs,List.size_toArray,BF,hol,hnl];rw [h1,Fz];omega
   ·by_cases hj:j<M lo
    ·rw [HW hj] at hd
     exact ob Z _ w.heap.size 0 (λ_ h=>h) hw (λp hp=>by rw [cell_of_block hblk,EM,hc1 p hp]) j d hd
    ·rw [GL A0] at hd
     have:=nb Z _ w.heap.size (0+M olds) (λ_ h=>h) hw (λp hp=>by rw [cell_of_block hblk,EM,hc2 p hp]) _ d hd
     rw [hol,EM,<-Fz] at this;rw [show M lo+(j-M lo)=j by omega] at this
     rw [EM];exact this)
 exact ⟨_,_,hrun,hbw,β',b1,b3,aMv,VW⟩
def size_setCells (b:Nat):∀(vs:List Value) (o:Nat) (w:World),(w.setCells b o vs).heap.size=w.heap.size
 | [],_,_=>rfl
 |v::r,o,w=>by rw [World.setCells,size_setCells b r];simp
def adA (b:Nat):∀(vs:List Value) (o:Nat) (w:World),(w.setCells b o vs).tape=w.tape
 | [],_,_=>rfl
 |v::r,o,w=>by rw [World.setCells,adA b r];rfl
def adt (w:World) (g o:Nat) (vs:List Value) {i:Nat}(hne:i≠g):(w.setCells g o vs).heap[i]? =w.heap[i]? :=by
 by_cases hi:i<w.heap.size
 ·exact World.heap_setCells_other w g o vs hi hne
 ·rw [xP (by rw [size_setCells];omega),xP A0]
theorem ad5 (b:Nat) (t:TypeId):∀(vs:List Value) (o:Nat) (w:World) (cs:Array Value),w.heap[b]? =ah (.cells cs t (0,0))->∃cs',(w.setCells b o vs).heap[b]? =ah (.cells cs' t (0,0))/\cs'.size=cs.size
 | [],_,w,cs,h=>⟨cs,h,rfl⟩
 | v::r,o,w,cs,h=>by
  have h1:(w.setCell ⟨b,o,aj⟩ v).heap[b]? =ah (.cells (cs.setIfInBounds o v) t (0,0)):=by
   simp [World.setCell,Array.getElem?_modify,h]
  obtain ⟨cs',h2,h3⟩:=ad5 b t r (o+1) _ _ h1;exact ⟨cs',h2,A8⟩
theorem aej (hW:RW G w0 Z0 Z β H w) {t tx ty' e:TypeId}{i:TypeInfo}(hu:P.underlying t=ah (.slice e)) (hkx:∃e',P.underlying tx=ah (.slice e')) (hi:P.info? e=ah i) {ty:Ty}(him:i.size=ty.n)
  {B O c:Nat} {ad:Addr} {lo q:List ty.D} {cs:Array Value} (g1:w.heap[B]? =ah (.cells cs e (0,0))) (g2:O+c*ty.n<=cs.size) (had:0<c->ad=⟨B,O,aj⟩)
  (hB0:w0.heap.size<=B) (hBZ:¬Z B) (hBo:∀j bj,H[j]? =ah bj->live β j bj->(β j).b≠B)
  (olde:∀(j:Nat) (d:ty.D),lo[j]? =ah d->RD Z w ty d B (O+j*ty.n)) {y:Value} {news:List Value} (hs:Src P ty.n tx y (M q) news w) (nb:Back Z w ty q news) (hroom:M lo+M q<=c):
  ∃w' v,(Builtin.append_ #[t,tx] ty' #[.slice (ah ad) (M lo) c,y]).run P w=.ok v w'/\(w'.os=w.os/\w'.tape=w.tape/\w'.output=w.output/\w'.heap.size=w.heap.size)/\(∀j,j≠B->w'.heap[j]? =w.heap[j]?)/\
   ∃β',(∀k,k<M H->β' k=β k)/\RW G w0 Z0 Z β' (H++[⟨[],e,.vec ty<|lo++q,X⟩]) w'/\R β' Z w' (.os (M H) ty.n 0<|M lo+M q) v/\(β'<|M H).b=B:=by
 have hnl:=hs.newsLen
 have hmr:M lo*ty.n+M q*ty.n<=c*ty.n:=by rw [<-Fz];exact N8 _ hroom
 have hrun:(Builtin.append_ #[t,tx] ty' #[.slice (ah ad) (M lo) c,y]).run P w=.ok (.slice (ah ad) (M lo+M q) c) (w.setCells B (O+M lo*ty.n) news):=by
  by_cases hc0:0<c
  ·rw [had hc0]
   have:=run_append_room_src (P:=P) w t tx ty' e i hu hi B O (M lo) c y (M q) news (by rw [him];exact hs) hroom (λj hj=>by
    rw [cell_of_block g1,him]
    have:O+M lo*ty.n+j<cs.size:=A0
    simp [this]) λj hj=>azy g1 _
   rw [him] at this;exact this
  ·have hn0:M lo=0:=A0
   have hq0:M q=0:=A0
   have hnn:news=[]:=MA.1 (by rw [hnl,hq0];simp)
   have hl:=hs.len
   have hc:=hs.cells
   rw [hq0] at hl hc;subst hnn;rw [hq0,hn0];obtain ⟨e',hk⟩:=hkx
   simp [Builtin.append_,CV hu,CV hk,sizeOf,typeInfo,hi,hl,him,hc,World.setCells,storeCells]
 have hne:∀j,j≠B->(w.setCells B (O+M lo*ty.n) news).heap[j]? =w.heap[j]? :=λj hj=>adt w _ _ _ hj
 have hZw:∀b',Z b'->(w.setCells B (O+M lo*ty.n) news).heap[b']? =w.heap[b']? :=λb' hz=>hne b' λe=>hBZ<|e▸hz
 have hin:=World.cell?_setCells_in B news (O+M lo*ty.n) w (λj hj=>by
  rw [cell_of_block g1]
  have:O+M lo*ty.n+j<cs.size:=A0
  simp [this])
 have hout:=λj (hj:j<O+M lo*ty.n)=>World.cell?_setCells_out B news (O+M lo*ty.n) w ⟨B,j,aj⟩ λ_ _=> .inl hj
 obtain ⟨cs',q1,q2⟩:=ad5 B e news (O+M lo*ty.n) w cs g1
 have hos:=World.os_setCells w B (O+M lo*ty.n) news
 have hot:=World.output_setCells w B (O+M lo*ty.n) news
 have htp:=adA B news (O+M lo*ty.n) w
 have hsz:=size_setCells B news (O+M lo*ty.n) w
 generalize w.setCells B (O+M lo*ty.n) news=w' at hrun hne hZw hin hout q1 hos hot htp hsz
 have hW2:=hW.loose hB0 hBZ hBo hsz ⟨hos,htp,hot⟩ hne
 obtain ⟨β',b1,b2,b3⟩:=hW2.KO (ℓ:=⟨B,O,ah c⟩) (nb:=⟨[],e,.vec ty<|lo++q,X⟩) rfl ⟨ak,ak⟩ (λ_=>⟨hBZ,hB0,hBo⟩) (λβ' f1 f2=>by
  simp only [BZ,f2];refine ⟨cs',q1,A0,by rw [BF];exact hroom,λj d hd=>?_⟩
  by_cases hj:j<M lo
  ·rw [HW hj] at hd
   refine RD.move (λ_ h=>h) hZw ty d _ _ _ _ (λp hp=>?_)<|olde j d hd
   have:=N8 ty.n (show j+1<=M lo by omega)
   rw [Fz,Sd] at this;exact hout _ A0
  ·rw [GL A0] at hd
   have:=nb Z w' B (O+M lo*ty.n) (λ_ h=>h) hZw (λp hp=>by rw [hin p hp,DQ hp]) _ d hd
   rw [HV O,<-Fz,show M lo+(j-M lo)=j by omega] at this
   exact this)
 refine ⟨w',_,hrun,⟨hos,htp,hot,hsz⟩,hne,β',b1,b3,?_,VW⟩;simp only [R,b2]
 grind
theorem T.B4 {α γ:Type}{t:T α}{k:α->T γ}{y:γ}(h:(t.bind k).all λz=>z=y):∃x,t.all (λz=>z=x)/\(k x).all (λz=>z=y):=by
 rw [T.all_bind] at h;obtain ⟨x,h1,h2⟩:=T.pick h
 grind
def ae0 {t tx ty':TypeId} {x y lv:LV} {vx vy:Value} {H':List AB} (hW:RW G w0 Z0 Z β H w) (h:(LF P H t tx x y).all λq=>q=(lv,H')) (hx:R β Z w x vx) (hy:R β Z w y vy):
  ∃w' v,(Builtin.append_ #[t,tx] ty' #[vx,vy]).run P w=.ok v w'/\DL (DN β H<|owns x) w w'/\(∀b,Z b->w'.heap[b]? =w.heap[b]?)/\∃β',(∀k,k<M H->β' k=β k)/\RW G w0 Z0 Z β' H' w'/\R β' Z w' lv v/\okV (M H') lv/\
   (M H')=M H+1/\(w.heap.size<=(β'<|M H).b\/(β'<|M H).b∈DN β H (owns x)):=by
 unfold LF at h;split at h
 ·rename_i e ty m F4 he
  obtain ⟨hu,htn,i,hi,him,hib⟩:=nK he;split at h
  ·rename_i e2 z hkx hz
   have hzi:i.zero=ah z:=aN1
   split at h
   ·rename_i hzs
    obtain ⟨q,hq,hnew⟩:=T.B4 h
    clear h
    have h:=hnew
    clear hnew
    ·obtain ⟨news,hs,nb⟩:=aDV hkx hW hq hy
     have hnl:=hs.newsLen
     subst htn
     have nil:∀(H1:List AB),RW G w0 Z0 Z β H1 w->(M q:Int)*F4<=2^47->(M q:Int)<2^62->
       ∃w' v,(Builtin.append_ #[t,tx] ty' #[.slice aj 0 0,vy]).run P w=.ok v w'/\Below w.heap.size w w'/\∃β',(∀k,k<M H1->β' k=β k)/\RW G w0 Z0 Z β' (H1++[⟨[],e,.vec ty q,X⟩]) w'/\R β' Z w' (.os (M H1) ty.n 0<|M q) v/\(β'<|M H1).b=w.heap.size:=λH1 hW1 hby h62=>by
      by_cases hq0:0<M q
      ·have:=aDK (P:=P) (ty':=ty') hW1 hu hi hzi him hzs (base:=aj) (sCap:=0) (olds:=[]) (lo:=[]) (q:=q) (by simpa using run_firstCells_none (P:=P) w.drew i.size 0 0 0) AI (λ_ _ _ _ _ _ _ i d hd=>by simp at hd) hs nb (by simpa using hq0) (by simpa using h62) (by rw [hib];simpa using hby)
       exact Py
      ·have hqn:q=[]:=MA.1 A0
       subst hqn
       have hn0:news=[]:=MA.1<|by simpa using hnl
       subst hn0;obtain ⟨β',b1,b2,b3⟩:=hW1.KO (ℓ:=⟨w.heap.size,0,aj⟩) (nb:=⟨[],e,.vec ty [],X⟩) rfl ⟨ak,ak⟩ (λhl=>absurd rfl hl) λβ' g1 g2=>yh
       refine ⟨w,.slice aj 0 0,?_,Below.refl _ _,β',b1,b3,by simp [R,b2],VW⟩
       have hl:=hs.len
       have hc:=hs.cells
       simp only [Bp] at hl hc
       simp [Builtin.append_,CV hu,CV hkx,sizeOf,typeInfo,hi,hl,him,hc]
     split at h
     ·simp only [T.all] at h
      obtain ⟨⟨h1,h2⟩,h3⟩:=h;simp only [Ax] at h3;obtain ⟨rfl,rfl⟩:=h3;simp only [R] at hx;subst hx;obtain ⟨w',v,r1,r2,β',r3,r4,r5,r6⟩:=nil H hW h1 h2;exact ⟨w',v,r1,⟨r2.os,r2.tape,r2.output,r2.size,λk hk _=>r2.block k hk⟩,λb hz=>Dx r2<|hW.Bb b hz,β',r3,r4,r5,MG,AI,.inl A0⟩
     ·rename_i k es off n
      split at h
      ·rename_i c0 bt e' l hb
       split at h
       ·rename_i hee _
        have hee':=hee.symm
        subst hee';split at h
        ·rename_i hes
         obtain ⟨rfl,rfl⟩:=hes;simp only [T.all] at h;obtain ⟨⟨hlen,hby,h62⟩,h3⟩:=h;simp only [Ax,KX] at h3;obtain ⟨rfl,rfl⟩:=h3
         have hkl:k<M H:=(Dv.1 hb).1
         have hW1:=hW.kill k bt
         have hblk:=(hW.blk k _ hb).1
         simp only [R] at hx;split at hx
         ·rename_i hcap
          obtain ⟨rfl,rfl,rfl⟩:=hx;simp only [BZ,hcap] at hblk;subst hblk;obtain ⟨w',v,r1,r2,β',r3,r4,r5,r6⟩:=nil _ hW1 (by simpa using hby)<|by simpa using h62
          simp only [CH] at r3 r5 r6;exact ⟨w',v,r1,⟨r2.os,r2.tape,r2.output,r2.size,λk hk _=>r2.block k hk⟩,λb hz=>Dx r2<|hW.Bb b hz,β',r3,by simpa using r4,by simpa using r5,MG,AI,.inl A0⟩
         ·rename_i c hcap
          obtain ⟨hoc,ad,hvx,had⟩:=hx;subst hvx;simp only [BZ,hcap] at hblk;obtain ⟨cs,g1,g2,g3,g4⟩:=hblk
          have hlive:live β k ⟨c0,bt,.vec ty l,X⟩:=by simp [live,hcap]
          have hB0:=hW.low k _ hb hlive
          have hBZ:=hW.Cf k _ hb hlive rfl
          have hBo:∀j bj,(H.set k ⟨[],bt,.dead,X⟩)[j]? =ah bj->live β j bj->(β j).b≠(β k).b:=λj bj hj lj e=>by
           rw [I7] at hj;split at hj
           ·first
            | (split at hj
               ·simp only [Ah] at hj;subst hj;exact lj
               ·cases hj)
            |(simp only [Ah] at hj;subst hj;exact lj)
           ·rename_i hne
            exact hne<|hW.inj k j _ bj hb hj hlive lj rfl e.symm
          have olde:∀(j:Nat) (d:ty.D),(l.drop off)[j]? =ah d->RD Z w ty d (β k).b ((β k).o+off*ty.n+j*ty.n):=λj d hd=>by
           rw [F8] at hd
           have:=g4 (off+j) d hd
           rwa [Fz,<-HV] at this
          have hln:M (l.drop off)=n:=D2
          have hmul:off*ty.n+(c-off)*ty.n=c*ty.n:=by rw [<-Fz];congr 1;omega
          by_cases hroom:n+M q<=c-off
          ·--in place
           have hr:=aej (P:=P) (ty':=ty') hW1 hu ⟨_,hkx⟩ hi him (B:=(β k).b) (O:=(β k).o+off*ty.n) (c:=c-off) (ad:=ad) (lo:=l.drop off) (q:=q) g1 A0 had hB0 hBZ hBo olde hs nb (by rw [hln];exact hroom)
           rw [hln] at hr;obtain ⟨w',v,r1,⟨r2,r3,r4,r5⟩,r6,β',r7,r8,r9,r10⟩:=hr;simp only [CH] at r7 r9 r10;exact ⟨w',v,r1,⟨r2,r3,r4,A0,λj _ hj=>r6 j λe=>hj<|e▸TN hb hlive rfl⟩,λb' hz=>r6 b' λe=>hBZ<|e▸hz,β',r7,r8,r9,MG,AI,.inr (by rw [r10];exact TN hb hlive rfl)⟩
          ·--a new row
           obtain ⟨olds,o1,o2,o3⟩:=aDb olde
           have hold:(Builtin.firstCells i.size n<|.slice (ah ad) n<|c-off).run P w.drew=.ok olds.toArray w.drew:=by
            by_cases hc0:0<c-off
            ·rw [had hc0,him]
             refine run_firstCells_some (P:=P) w.drew ty.n n _ n (c-off) olds (by rw [o1,hln]) λj v hv=>?_
             have hj:j<M (l.drop off)*ty.n:=by have:=(Dv.1 hv).1;omega
             rw [addr_add]
             have:=o2 j hj
             rw [hv] at this;exact this
            ·have hn0:n=0:=A0
             have:olds=[]:=MA.1 (by rw [o1,hln,hn0];simp)
             rw [this,hn0]
             simp [Builtin.firstCells,loadCells,loadCellsFrom]
           have hgr:=aDK (P:=P) (ty':=ty') hW1 hu hi hzi him hzs (base:=ah ad) (sCap:=c-off) (olds:=olds) (lo:=l.drop off) (q:=q) (by rw [hln];exact hold) o1 (λZ' w' b' o' hZ hw hc=>aEc hZ hw olde o2 λj hj=>hc j A0) hs nb (by rw [hln];omega) (by rw [hln];exact h62) (by rw [hln,hib];exact hby)
           rw [hln] at hgr;obtain ⟨w',v,r1,r2,β',r3,r4,r5,r6⟩:=hgr;simp only [CH] at r3 r5 r6;exact ⟨w',v,r1,⟨r2.os,r2.tape,r2.output,r2.size,λk hk _=>r2.block k hk⟩,λb hz=>Dx r2<|hW.Bb b hz,β',r3,r4,r5,MG,AI,.inl A0⟩
        ·cases h
       ·cases h
      ·cases h
     ·cases h
   ·cases h
  ·cases h
 ·cases h
def aeV {t tx ty':TypeId} {x y lv:LV} {vx vy:Value} {H':List AB} (hW:RW G w0 Z0 Z β H w) (h:(XU P H t tx x y).all λq=>q=(lv,H')) (hx:R β Z w x vx) (hy:R β Z w y vy):
  ∃w' v,(Builtin.copy_ #[t,tx] ty' #[vx,vy]).run P w=.ok v w'/\RW G w0 Z0 Z β H' w'/\R β Z w' lv v/\okV (M H') lv/\M H'=M H/\(∀b,Z b->w'.heap[b]? =w.heap[b]?)/\DL (DN β H<|owns x) w w':=by
 unfold XU at h;split at h
 ·rename_i e ty m F4 e2 he hkx
  obtain ⟨hu,htn,i,hi,him,hib⟩:=nK he;subst htn;split at h
  ·rename_i k es n
   split at h
   ·rename_i c0 bt e' l hb
    split at h
    ·rename_i hee _
     have hee':=hee.symm
     subst hee';split at h
     ·rename_i hes
      subst hes;obtain ⟨q,hq,h⟩:=T.B4 h;obtain ⟨news,hs,nb⟩:=aDV hkx hW hq hy
      have hnl:=hs.newsLen
      simp only [T.all] at h;obtain ⟨⟨hn,hql⟩,h3⟩:=h;simp only [Ax,KX] at h3;obtain ⟨rfl,rfl⟩:=h3
      have hkl:k<M H:=(Dv.1 hb).1
      obtain ⟨hblk,hbo⟩:=hW.blk k _ hb
      have hcells:=hs.cells
      have hlen:=hs.len
      have same:M q=0->H.set k ⟨c0,bt,.vec ty<|BE q l,X⟩=H:=λh0=>by
       have hq0:q=[]:=MA.1 h0
       subst hq0
       have e:H=H.set k ⟨c0,bt,.vec ty l,X⟩:=by
        apply List.ext_getElem? λj=>?_
        rw [I7];split
        ·rename_i hj;subst hj;exact hb
        ·rfl
       simp only [BE,EB,Bp,CP];exact e.symm
      have nothing:∀(a:Option Addr) (cc:Nat),vx=.slice a n cc->M q=0->∃w' v,(Builtin.copy_ #[t,tx] ty' #[vx,vy]).run P w=.ok v w'/\RW G w0 Z0 Z β (H.set k ⟨c0,bt,.vec ty<|BE q l,X⟩) w'/\R β Z w' (.v<|Y J (M q:Int)) v/\okV (M<|H.set k ⟨c0,bt,.vec ty<|BE q l,X⟩) (.v<|Y J (M q:Int))/\M (H.set k ⟨c0,bt,.vec ty<|BE q l,X⟩)=M H/\(∀b,Z b->w'.heap[b]? =w.heap[b]?)/\DL (DN β H<|owns<|.os k ty.n 0 n) w w':=λa cc hv h0=>by
       have hnn:news=[]:=MA.1<|by rw [hnl,h0,k8]
       rw [same h0];subst hnn;rw [h0] at hcells hlen;refine ⟨w,Y J 0,?_,hW,by rw [h0];simp only [R];rfl,ak,rfl,λ_ _=>rfl,DL.refl _ _⟩
       rw [hv];cases a<;>simp [Builtin.copy_,CV hu,hlen,sizeOf,typeInfo,hi,him,hcells,storeCells,goInt]
      simp only [R] at hx;split at hx
      ·rename_i hcap
       obtain ⟨hn0,_,hv⟩:=hx;exact nothing aj 0 (by rw [hv,hn0]) A0
      ·rename_i c hcap
       obtain ⟨hoc,ad,hvx,had⟩:=hx
       by_cases hq0:M q=0
       ·exact nothing _ _ hvx hq0
       ·have hlive:live β k ⟨c0,bt,.vec ty l,X⟩:=by unfold live;rw [hcap];simp
        simp only [BZ,hcap] at hblk;obtain ⟨cur,g1,g2,g3,g4⟩:=hblk
        have hm:=N8 ty.n (show M q<=c by omega)
        have hst:=xI P (β k).b (β k).o bt news 0 cur w g1 (by rw [hnl];omega) hs.one
        simp only [ZQ] at hst;generalize hnew:(cur.toList.take (β k).o++news++cur.toList.drop ((β k).o+M news)).toArray=new at hst
        have hnget:∀p,new[p]? =if p<(β k).o then cur[p]? else if p<(β k).o+M news then news[p-(β k).o]? else cur[p]? :=λp=>by
         rw [<-hnew]
         have hsz':(β k).o<=cur.size:=A0
         by_cases q1:p<(β k).o
         ·exact aLp
         ·rw [AE q1]
          simp only [ZG]
          by_cases q2:p<(β k).o+M news
          ·exact aLk
          ·rw [AE q2,GL D2,F8]
           have:(β k).o+M news+(p-M (cur.toList.take (β k).o++news))=p:=by
            simp
            omega
           rw [this]
           simp
        have hnsz:new.size=cur.size:=by
         rw [<-hnew]
         simp
         omega
        have hne:∀q,q≠(β k).b->(w.setRow (β k).b new).heap[q]? =w.heap[q]? :=λq hq=>aBt w _ _ _ hq
        have hZw:∀b',Z b'->(w.setRow (β k).b new).heap[b']? =w.heap[b']? :=λb' hz=>hne b' λe=>hW.Cf k _ hb hlive rfl<|e▸hz
        have hb2:=setRow_heap w (β k).b cur new bt _ g1
        have had:=had A0
        rw [k8,ZQ] at had;refine ⟨w.setRow (β k).b new,Y J (M q:Int),?_,?_,JR,ak,AI,hZw,⟨rfl,rfl,rfl,VO,λq _ hq=>hne q λe=>hq<|e▸TN hb hlive rfl⟩⟩
        ·rw [hvx,had]
         simp [Builtin.copy_,CV hu,hlen,sizeOf,typeInfo,hi,him,Nat.min_eq_left hql,hcells,hst,goInt]
        ·refine hW.set hb hlive rfl rfl ⟨hbo.1,ak⟩ VO ⟨rfl,rfl,rfl⟩ hne ?_
         simp only [BZ,hcap];refine ⟨new,hb2,A0,by simp only [BE,BF,F7];omega,λi' d' hd'=>?_⟩
         unfold BE at hd'
         by_cases hii:i'<M q
         ·rw [HW hii] at hd'
          refine nb Z (w.setRow (β k).b new) (β k).b (β k).o (λ_ h=>h) hZw (λp hp=>?_) i' d' hd'
          rw [cell_of_block hb2,hnget,AE A0,AD A0,xO]
         ·rw [GL A0,F8,Nat.add_sub_cancel' A0] at hd'
          refine RD.move (λ_ h=>h) hZw ty d' _ _ _ _ (λp hp=>?_)<|g4 i' d' hd'
          have:=N8 ty.n (show M q<=i' by omega)
          rw [cell_of_block hb2,cell_of_block g1,hnget,AE A0,AE A0]
     ·cases h
    ·cases h
   ·cases h
  ·cases h
 ·cases h
end Go.Sx
namespace Go.Sx
open Go.Proofs.YtipodhghjclmbaaGreatDoor
open Go Go.RowKit
variable {P : Program} {G : B1} {Γ : Specs} {β : Nat -> Loc} {Z : Nat -> Prop} {Z0 : Gz} {w w0 : World} {F : List LV} {H : List AB} {a : Act}
def aBw {n m:Nat}{g:LV->LV}{l:List LV}(h:AS n l) (hg:∀x,okV n x->okV m (g x)):AS m (l.map g):=by
 refine AS.CQ λi x hx=>?_
 cases hl:l[i]? with
 |none=>simp [hl] at hx
 |some q=>simp [hl] at hx;subst hx;exact hg q<|AS.get _ _ h hl
theorem aCM {k:Nat}{x:LV}:∀ {l:List LV}{i:Nat},l[i]? =ah x->k∈owns x->k∈ownsL l
 | [],i,h,_=>A8
 |y::ys,0,h,hk=>by simp at h;subst h;simp only [ownsL,Be];exact .inl hk
 |y::ys,i+1,h,hk=>by simp at h;simp only [ownsL,Be];exact .inr<|aCM (l:=ys) h hk
def TC {S:Nat->Prop}{Z':Nat->Prop}{g:LV->LV}{n:Nat}{l:List LV}{ys:List Value}(h:RL β Z w l ys) (hk:AS n l) (hS:∀k,k∈ownsL l->S k) (hg:∀x y,x∈l->(∀k,k∈owns x->S k)->okV n x->R β Z w x y->R β Z' w (g x) y):RL β Z' w (l.map g) ys:=by
 refine RL.CQ (by simp [RL.length h]) λi x hx=>?_
 cases hl:l[i]? with
 |none=>simp [hl] at hx
 |some q=>
  simp [hl] at hx;subst hx
  obtain ⟨y,h1,h2⟩:=RL.get _ _ h hl;exact ⟨y,h1,hg q y (OS hl) (λk hkk=>hS k<|aCM hl hkk) (AS.get _ _ hk hl) h2⟩
def GX (H:List AB) (d:Nat) (x:LV):Prop:=(ED H d x).all λ_=>True
def Oi {α:Type}{g:α->T Unit}:∀ {l:List α},(G5 g l).all (λ_=>True)->∀x,x∈l->(g x).all (λ_=>True)
 | [],_,x,hx=>Q2
 | y::ys,h,x,hx=>by
  simp only [G5] at h;rw [T.all_bind] at h;rcases B7.1 hx with rfl|hx
  ·exact T.BY (λ_ _=>trivial) h
  ·obtain ⟨_,h1,_⟩:=T.pick h
   exact Oi h1 x hx
def anz (e:Ty) (d:e.D) (j:Nat):okV 0 ((Bn e d).getD j .junk):=dP (NT 0 e d) j
def QF (H:List AB) (hH:∀(k:Nat) (b:AB),H[k]? =ah b->okB (M H) b):∀(d:Nat) (x:LV),okV (M H) x->okV 0 (Bx H d x)
 |0,x,_=>by cases x<;>trivial
 | d+1,.own k off,_=>by
  simp only [Bx];split
  ·rename_i b hb
   split
   ·simp only [okV]
    exact λj=>QF H hH d _<|dP (hH k b hb).1 _
   ·trivial
  ·trivial
 | d+1,.os k es off n,_=>by
  simp only [Bx];split
  ·split
   ·trivial
   ·trivial
  ·trivial
 | d+1,.op k es i j,_=>by
  simp only [Bx];split
  ·split
   ·simp only [okV];exact λq=>anz _ _ _
   ·trivial
  ·trivial
 | d+1,.om k,_=>by
  simp only [Bx];split
  ·rename_i hb
   exact aBw (hH k _ hb).2 λx hx=>QF H hH d x hx
  ·trivial
 |d+1,.v x,_=>trivial
 |d+1,.bl x,_=>trivial
 |d+1,.ki _ _,_=>trivial
 |d+1,.agg l,h=>Zp
 |d+1,.AO l,h=>Zp
 |d+1,.fn f l,h=>Zp
 |d+1,.fb f l,h=>Zp
 |d+1,.xq n f,h=>by simpa only [Bx,okV] using h
 |d+1,.xl e l,h=>trivial
 |d+1,.mp kd ks vs,h=>Zp
 |d+1,.oc ..,_=>trivial
 |d+1,.CK k,_=>trivial
 |d+1,.junk,_=>trivial
def ZP (Z:Nat->Prop) (β:Nat->Loc) (H:List AB) (S:Nat->Prop):Nat->Prop:=λb=>Z b\/∃k bk,S k/\H[k]? =ah bk/\live β k bk/\b=(β k).b
def pL (hW:RW G w0 Z0 Z β H w) {k:Nat}{b:AB}(hb:H[k]? =ah b) (hc:b.Dl=U):live β k b/\(∃cs,w.heap[(β k).b]? =ah (.cells cs b.t (0,0))/\RL β Z w b.c cs.toList)/\AS (M H) b.c:=by
 obtain ⟨h1,h2⟩:=hW.blk k b hb;unfold BZ at h1;unfold AB.Dl at hc;split at hc
 ·rename_i hk'
  simp only [hk'] at h1;exact ⟨by unfold live;rw [hk'];trivial,h1,h2.1⟩
 ·cases hc
theorem Ma {S:Nat->Prop}(hW:RW G w0 Z0 Z β H w) (clo:∀k b,S k->H[k]? =ah b->∀j,j∈b.owns->S j):∀(d:Nat) (x:LV) (y:Value),GX H d x->(∀k,k∈owns x->S k)->okV (M H) x->R β Z w x y->R β (ZP Z β H S) w (Bx H d x) y
 |0,x,_,_,_,_,_=>by cases x<;>simp only [Bx,R]
 | d+1,.own k off,y,hG,hS,hk,h=>by
  simp only [Bx];split
  ·rename_i b hb
   split
   ·rename_i hcl
    obtain ⟨hl,⟨cs,hc,hrl⟩,hok⟩:=pL hW hb hcl
    have hSk:S k:=hS k Ie
    simp only [R,okV] at*;refine ⟨(β k).b,off,h,.inr ⟨k,b,hSk,hb,hl,rfl⟩,λj hj=>?_⟩
    have hl':off+j<M b.c:=A0
    have hq:=getD_lt hl'
    obtain ⟨z,h1,h2⟩:=RL.get _ _ hrl hq;refine ⟨z,aNN,?_⟩
    have hG':(G5 (ED H d) b.c).all (λ_=>True):=aMx
    exact Ma hW clo d _ z (Oi hG' _<|OS hq) (λj hj=>clo k b hSk hb j (by unfold AB.owns;exact Be.2<|.inl<|aCM hq hj)) (dP hok _) h2
   ·exact Dk
  ·exact Dk
 | d +1,.os k es off n,y,hG,hS,hk,h=>by
  simp only [Bx];split
  ·rename_i c0 bt e l pp hb
   split
   ·rename_i hes
    have hle:off+n<=M l:=by
     exact aMJ
    have hSk:S k:=hS k Ie
    have hlen:M ((l.drop off).take n)=n:=D2
    simp only [R] at h|-;rw [hlen];split at h
    ·obtain ⟨rfl,_,hy⟩:=h
     exact ⟨aj,0,hy,A0,λh=>absurd h A0⟩
    ·rename_i c hc
     obtain ⟨h1,a,h2,h3⟩:=h;refine ⟨ah a,c-off,h2,A0,λhn=>?_⟩
     have h4:=(hW.blk k _ hb).1
     simp only [BZ,hc] at h4;obtain ⟨cs,g1,g2,g3,g4⟩:=h4;refine ⟨_,_,by rw [h3 A0],.inr ⟨k,_,hSk,hb,by simp [live,hc],rfl⟩,λi d hd=>?_⟩
     rw [Kz] at hd;split at hd
     ·rw [F8] at hd
      have:=g4 (off+i) d hd
      rw [<-hes];rw [Fz,<-HV] at this;exact RD.keep (λ_ h=> .inl h) (λ_ _=>rfl) e d _ _ rfl this
     ·cases hd
   ·exact Dk
  ·exact Dk
 | d +1,.op k es i j,y,hG,hS,hk,h=>by
  simp only [Bx];split
  ·rename_i c0 bt e l pp hb
   split
   ·rename_i hes
    have hle:i<M l:=by
     exact aMJ
    have hSk:S k:=hS k Ie
    simp only [R] at h|-;obtain ⟨hcap,hy⟩:=h
    have h4:=(hW.blk k _ hb).1
    simp only [BZ] at h4;split at h4
    ·exact xy
    ·rename_i c hc
     obtain ⟨cs,g1,g2,g3,g4⟩:=h4;refine ⟨_,_,hy,.inr ⟨k,_,hSk,hb,by simp [live,hc],rfl⟩,λq hq=>?_⟩
     have hjq:j+q<M (Bn e<|l.getD i e.dflt):=yp
     have hrd:=RD.keep (Z':=ZP Z β H S) (λ_ h=> .inl h) (λ_ _=>rfl) e _ _ _ rfl<|g4 i _<|getD_at hle
     obtain ⟨z,z1,z2⟩:=Wo (β:=β) e _ _ _ hrd (j+q) _<|getD_lt hjq
     grind
   ·exact Dk
  ·exact Dk
 | d+1,.om k,y,hG,hS,hk,h=>by
  simp only [Bx];split
  ·rename_i c0 bt kd ks vs pp hb
   have hSk:S k:=hS k Ie
   obtain ⟨h4,h5⟩:=hW.blk k _ hb;simp only [BZ] at h4;obtain ⟨es,clock,g1,g2,g3⟩:=h4;simp only [R] at h|-;refine ⟨_,es,clock,h,.inr ⟨k,_,hSk,hb,ak,rfl⟩,g1,g2,?_⟩
   have hG':(G5 (ED H d) vs).all (λ_=>True):=aMx
   exact TC (S:=S) g3 h5.2 (λj hj=>clo k _ hSk hb j (by unfold AB.owns;exact Be.2<|.inr hj)) λx y hm hx hk' hr=>Ma hW clo d x y (Oi hG' _ hm) hx hk' hr
  ·exact Dk
 |d+1,.v x,_,_,_,_,h=>h
 |d+1,.bl x,_,_,_,_,h=>h
 |d+1,.ki _ _,_,_,_,_,h=>h
 |d+1,.agg l,y,hG,hS,hk,h=>by
  exact kX
 |d+1,.AO l,y,hG,hS,hk,h=>by
  exact kX
 |d+1,.fn f l,y,hG,hS,hk,h=>by
  exact kX
 |d+1,.fb f l,y,hG,hS,hk,h=>by
  exact kX
 |d+1,.mp kd ks vs,y,hG,hS,hk,h=>by
  have hG':(G5 (ED H d) vs).all (λ_=>True):=aNl
  clear hG
  simp only [Bx,R,okV,owns] at*;obtain ⟨r,es,clock,h1,h2,h3,h4,h5⟩:=h;exact ⟨r,es,clock,h1,.inl h2,h3,h4,TC h5 hk hS λx y hm hx hk' hr=>Ma hW clo d x y (Oi hG' _ hm) hx hk' hr⟩
 |d+1,.xq n f,y,_,_,hk,h=>by
  exact aM0
 |d+1,.xl e l,y,_,_,hk,h=>by
  exact aM0
 |d+1,.oc ..,_,_,_,_,_=>yi
 |d+1,.CK k,_,_,_,_,_=>yi
 |d+1,.junk,_,_,_,_,_=>yi
def cA (ks:List Nat):∀(H:List AB) (s k:Nat),(FZ ks s H)[k]? =(H[k]?).map λb=>if ks.contains (s+k) then ⟨b.c,b.t,b.k,U⟩ else b
 | [],_,_=>by simp [FZ]
 |b::bs,s,0=>by simp [FZ]
 |b::bs,s,k+1=>by
  simp only [FZ,jr];rw [cA ks bs (s+1) k,show s+1+k=s+(k+1) by omega]
def K5 (ks:List Nat):∀(H:List AB) (s:Nat),M (FZ ks s H)=M H
 | [],_=>rfl
 |b::bs,s=>by simp [FZ,K5 ks bs]
theorem RW.pub (hW:RW G w0 Z0 Z β H w) (ks:List Nat):RW G w0 Z0 (ZP Z β H λk=>k∈ks) β (FZ ks 0 H) w:=by
 have old:∀k b,(FZ ks 0 H)[k]? =ah b->∃b0,H[k]? =ah b0/\live β k b=live β k b0/\b.k=b0.k/\b.t=b0.t/\b.c=b0.c/\((k∈ks/\b.p=U)\/(k∉ks/\b.p=b0.p)):=λk b h=>by
  rw [cA] at h;cases hb:H[k]? with
  |none=>simp [hb] at h
  | some b0=>
   simp only [hb,JQ,Ah,EM] at h;refine ⟨b0,rfl,?_⟩;split at h
   ·rename_i hc
    subst h;exact ⟨rfl,rfl,rfl,rfl,.inl ⟨A8,rfl⟩⟩
   ·rename_i hc
    subst h
    grind
 have hZ:∀b,Z b->ZP Z β H (λk=>k∈ks) b:=λ_ h=> .inl h
 refine ⟨hW.below,λb hz=>?_,λb hz=>?_,λk b hk hl hp hz=>?_,λk b hk hl hp=>?_,λk b hk hl=>?_,λi j bi bj hi hj li lj pi e=>?_,λk b hk=>?_,hW.CW.mono hZ λ_ _=>rfl,λp hp=>⟨R.mono (n:=M H) (λ_ _=>rfl) hZ (λ_ _=>rfl) _ _ (hW.gh p hp).2 (hW.gh p hp).1,by rw [K5];exact (hW.gh p hp).2⟩,λD hD=>⟨.inl (hW.Ci D hD).1,(hW.Ci D hD).2⟩⟩
 ·exact aMA
 ·rcases hz with hz|⟨k,bk,_,h2,h3,rfl⟩
  ·exact hW.EX b hz
  ·exact .inr<|hW.low k bk h2 h3
 ·obtain ⟨b0,h1,h2,h3,h4,h5,h6⟩:=old k b hk
  rcases h6 with ⟨_,h6⟩ |⟨h6,h7⟩
  ·grind
  ·rcases hz with hz|⟨j,bj,g1,g2,g3,g4⟩
   ·exact hW.Cf k b0 h1 (h2▸hl) (h7▸hp) hz
   ·exact h6<|(hW.inj k j b0 bj h1 g2 (h2▸hl) g3 (h7▸hp) g4)▸g1
 ·obtain ⟨b0,h1,h2,h3,h4,h5,h6⟩:=old k b hk
  rcases h6 with ⟨h6,_⟩ |⟨h6,h7⟩
  ·exact .inr ⟨k,b0,h6,h1,h2▸hl,rfl⟩
  ·exact .inl<|hW.G6 k b0 h1 (h2▸hl)<|h7▸hp
 ·obtain ⟨b0,h1,h2,_⟩:=old k b hk
  exact hW.low k b0 h1<|h2▸hl
 ·obtain ⟨b0,h1,h2,h3,h4,h5,h6⟩:=old i bi hi
  obtain ⟨c0,g1,g2,_⟩:=old j bj hj;rcases h6 with ⟨_,h6⟩ |⟨h6,h7⟩
  ·grind
  ·exact hW.inj i j b0 c0 h1 g1 (h2▸li) (g2▸lj) (h7▸pi) e
 ·obtain ⟨b0,h1,h2,h3,h4,h5,h6⟩:=old k b hk
  obtain ⟨q1,q2⟩:=hW.blk k b0 h1
  have q3:=q1.keep (β':=β) (Z':=ZP Z β H λk=>k∈ks) (w':=w) (n:=M H) (λ_ _=>rfl) hZ (λ_ _=>rfl) rfl (λ_=>rfl) q2
  rw [K5];refine ⟨?_,?_⟩
  ·unfold BZ at q3|-
   rwa [h3,h4,h5]
  ·unfold okB at q2|-
   rwa [h3,h5]
theorem Sp {ks:List Nat}{l:List LV}(h:KE H ks l=U):(∀k,k∈ownsL l->k∈ks)/\(∀k b,k∈ks->H[k]? =ah b->∀j,j∈b.owns->j∈ks):=by
 unfold KE at h;refine ⟨λk hk=>A8,λk b hk hb j hj=>?_⟩
 grind
end Go.Sx
namespace Go.Sx
open Go.Proofs.YtipodhghjclmbaaGreatDoor
open Go Go.RowKit
variable {P : Program} {G : B1} {Γ : Specs} {β : Nat -> Loc} {Z : Nat -> Prop} {Z0 : Gz} {w w0 : World} {F : List LV} {H : List AB} {a : Act}
def RO (β:Nat->Loc) (Z:Nat->Prop) (w:World):Option LV->Option Value->Prop
 |none,aj=>True
 |some x,ah y=>R β Z w x y
 |_,_=>False
def aCF {lo hi:Option Value}{len cap i j:Nat}(hij:i<=j) (hlc:j<=cap) (hlo:match lo with|none=>i=0|some v=>∃k,v=Y k i) (hhi:match hi with|none=>j=len|some v=>∃k,v=Y k j) (w':World):
  (Instr.sliceBounds U len cap lo hi aj).run P w'=.ok (i,j,cap) w':=by
 have bd:∀(k:IntKind) (x y:Nat) (c:BoundsCode),x<=y->(Instr.sliceBound (Y k x) y c).run P w'=.ok x w':=λk x y c hxy=>by
  exact aM4
 cases lo with
 |none=>
  subst hlo;cases hi with
  |none=>simp only at hhi;subst hhi;simp [Instr.sliceBounds]
  |some v=>simp only at hhi;obtain ⟨k,rfl⟩:=hhi;simp [Instr.sliceBounds,bd k j cap _ hlc]
 |some u=>
  obtain ⟨k',rfl⟩:=hlo;cases hi with
  |none=>simp only at hhi;subst hhi;simp [Instr.sliceBounds,bd k' i j _ hij]
  |some v=>simp only at hhi;obtain ⟨k,rfl⟩:=hhi;simp [Instr.sliceBounds,bd k j cap _ hlc,bd k' i j _ hij]
def adK {t:TypeId} {x lv:LV} {y:Value} {lo hi:Option LV} {vlo vhi:Option Value} {N:Nat} (h:(s7 P t x lo hi).all λz=>z=lv) (hr:R β Z w x y) (hlo:RO β Z w lo vlo) (hhi:RO β Z w hi vhi) (hk:okV N x):
  ∃v,(∀w',(Instr.sliceAt t y vlo vhi aj).run P w'=.ok v w')/\R β Z w lv v/\okV N lv:=by
 unfold s7 at h;split at h
 ·rename_i e hu
  split at h
  ·rename_i m hsz
   have e2:=λw=>run_sizeOf hsz w
   have bnd:∀(o:Option LV) (v:Option Value) (d n:Int),RO β Z w o v->(match o with|none=>ah d|some y=>match pl y with|some (.int _ n)=>ah n|_=>aj)=ah n->(match v with|none=>n=d|some v=>∃k,v=Y k n):=λo v d n ho hn=>by
    cases o with
    |none=>
     cases v with
     |none=>simp only at hn|-;exact (Dw hn).symm
     |some v=>cases ho
    | some x=>
     cases v with
     |none=>cases ho
     | some v=>
      simp only [RO] at ho;simp only at hn|-;split at hn
      ·rename_i k n' hp
       simp only [Ah] at hn;subst hn;exact ⟨k,Cb hp ho⟩
      ·cases hn
   have nn:∀(v:Option Value) (d n:Int),0<=n->0<=d->(match v with|none=>n=d|some v=>∃k,v=Y k n)->(match v with|none=>n.toNat=d.toNat|some v=>∃k,v=Y k (n.toNat:Int)):=λv d n hn hd hv=>by
    cases v with
    |none=>simp only at hv|-;rw [hv]
    |some v=>simp only at hv|-;rw [CM hn];exact hv
   simp only at h;split at h
   ·rename_i ty l
    split at h
    ·rename_i i j hi1 hi2
     split at h
     ·rename_i htn
      simp only [T.all] at h;obtain ⟨⟨h0,h1,h2⟩,h3⟩:=h;subst h3;simp only [R] at hr;obtain ⟨ad,cap,g1,g2,g3⟩:=hr
      have b1:=nn vlo 0 i h0 A0<|bnd lo vlo 0 i hlo hi1
      have b2:=nn vhi _ j A0 A0<|bnd hi vhi _ j hhi hi2
      simp only [By,Int.toNat_zero] at b1 b2;refine ⟨_,λw'=>by simp [Instr.sliceAt,Instr.slice,CV hu,g1,aCF (P:=P) (len:=M l) (cap:=cap) (i:=i.toNat) (j:=j.toNat) A0 A0 b1 b2 w',e2];rfl,?_,ak⟩
      have hlen:M ((l.drop i.toNat).take<|j.toNat-i.toNat)=j.toNat-i.toNat:=D2
      simp only [R];rw [hlen];refine ⟨_,_,rfl,A0,λhn=>?_⟩
      obtain ⟨b,off,g4,g5,g6⟩:=g3 A0;rw [AE A0,g4];simp only [JQ,addr_add];refine ⟨b,_,rfl,g5,λp d hd=>?_⟩
      rw [Kz] at hd;split at hd
      ·rw [F8] at hd
       have:=g6 (i.toNat+p) d hd
       rw [Fz,<-HV,htn] at this;rw [htn];exact this
      ·cases hd
     ·cases h
    ·cases h
   ·rename_i k es off n
    split at h
    ·rename_i i j hi1 hi2
     split at h
     ·rename_i hes
      simp only [T.all] at h;obtain ⟨⟨h0,h1,h2⟩,h3⟩:=h;subst h3
      have b1:=nn vlo 0 i h0 A0<|bnd lo vlo 0 i hlo hi1
      have b2:=nn vhi _ j A0 A0<|bnd hi vhi _ j hhi hi2
      simp only [R] at hr;split at hr
      ·rename_i hcap
       obtain ⟨rfl,rfl,rfl⟩:=hr
       have hi0:i.toNat=0:=A0
       have hj0:j.toNat=0:=A0
       refine ⟨.slice aj 0 0,λw'=>by simp [Instr.sliceAt,Instr.slice,CV hu,aCF (P:=P) (len:=0) (cap:=0) (i:=i.toNat) (j:=j.toNat) A0 A0 b1 b2 w',e2,hi0,hj0],by simp [R,hcap,hi0,hj0],hk⟩
      ·rename_i c hcap
       obtain ⟨g1,ad,g2,g3⟩:=hr;subst g2;refine ⟨_,λw'=>by simp [Instr.sliceAt,Instr.slice,CV hu,aCF (P:=P) (len:=n) (cap:=c-off) (i:=i.toNat) (j:=j.toNat) A0 A0 b1 b2 w',e2];rfl,?_,hk⟩
       simp only [R,hcap];refine ⟨A0,if c-off=i.toNat then ad else ad.add (i.toNat*(m+1)),?_,λhn=>?_⟩
       ·rw [show c-(off+i.toNat)=c-off-i.toNat by omega]
        split<;>rfl
       ·rw [AE A0,g3 A0,addr_add,hes,Fz,HV]
     ·cases h
    ·cases h
   ·cases h
  ·cases h
 ·cases h
def aeP {lo:Option Value}{kh km:IntKind}{len cap i j:Nat}(hij:i<=j) (hlc:j<=cap) (hlo:match lo with|none=>i=0|some v=>∃k,v=Y k i) (w':World):
  (Instr.sliceBounds U len cap lo (ah<|Y kh j)<|ah<|Y km j).run P w'=.ok (i,j,j) w':=by
 have bd:∀(k:IntKind) (x y:Nat) (c:BoundsCode),x<=y->(Instr.sliceBound (Y k x) y c).run P w'=.ok x w':=λk x y c hxy=>by
  exact aM4
 cases lo with
 |none=>simp only at hlo;subst hlo;simp [Instr.sliceBounds,bd km j cap _ hlc,bd kh j j _<|Ar j]
 |some u=>
  obtain ⟨k',rfl⟩:=hlo
  simp [Instr.sliceBounds,bd km j cap _ hlc,bd kh j j _<|Ar j,bd k' i j _ hij]
theorem adB {t:TypeId} {x lv hi mx:LV} {y vhi vmx:Value} {lo:Option LV} {vlo:Option Value} {N:Nat} (h:(q9 P t x lo hi mx).all λz=>z=lv) (hr:R β Z w x y) (hlo:RO β Z w lo vlo) (hhi:R β Z w hi vhi) (hmx:R β Z w mx vmx):
  ∃v,(∀w',(Instr.sliceAt t y vlo (ah vhi)<|ah vmx).run P w'=.ok v w')/\R β Z w lv v/\okV N lv:=by
 unfold q9 at h;split at h
 ·rename_i e hu
  split at h
  ·rename_i m hsz
   have e2:=λw=>run_sizeOf hsz w
   split at h
   ·rename_i ty l
    split at h
    ·rename_i i kj j kq q hi1 hi2 hi3
     have v2:=Cb hi2 hhi
     have v3:=Cb hi3 hmx
     subst v2;subst v3;split at h
     ·rename_i htn
      obtain ⟨⟨h0,h1,h2,rfl⟩,h3⟩:=h;subst h3;obtain ⟨ad,cap,g1,g2,g3⟩:=hr
      have b1:(match (generalizing:=false) vlo with|none=>i.toNat=0|some v=>∃k,v=Y k (i.toNat:Int)):=by
       cases lo with
       |none=>
        cases vlo with
        |none=>simp only [Ah] at hi1;subst hi1;rfl
        |some v=>cases hlo
       | some u=>
        cases vlo with
        |none=>cases hlo
        | some v=>
         simp only at hi1|-;split at hi1
         ·rename_i k n' hp
          simp only [Ah] at hi1;subst hi1;exact ⟨k,by rw [CM h0];exact Cb hp hlo⟩
         ·cases hi1
      have hj:q=((q.toNat:Nat):Int):=(CM A0).symm
      have hb:=λw'=>aeP (P:=P) (lo:=vlo) (kh:=kj) (km:=kq) (len:=M l) (cap:=cap) (i:=i.toNat) (j:=q.toNat) A0 A0 b1 w'
      rw [<-hj] at hb;refine ⟨_,λw'=>by simp [Instr.sliceAt,Instr.slice,CV hu,g1,hb w',e2];rfl,?_,ak⟩
      have hlen:M ((l.drop i.toNat).take<|q.toNat-i.toNat)=q.toNat-i.toNat:=D2
      simp only [R];rw [hlen];refine ⟨_,_,rfl,A0,λhn=>?_⟩
      obtain ⟨b,off,g4,g5,g6⟩:=g3 A0;rw [AE A0,g4];simp only [JQ,addr_add];refine ⟨b,_,rfl,g5,λp d hd=>?_⟩
      rw [Kz] at hd;split at hd
      ·rw [F8] at hd
       have:=g6 (i.toNat+p) d hd
       grind
      ·cases hd
     ·cases h
    ·cases h
   ·cases h
  ·cases h
 ·cases h
theorem aDO {kd:IntKind}{n:Int}{z:Value}{lv:LV}:∀(ks:List Int) (vs:List LV) (es:List MapEntry) (s:Nat),(cC kd n z ks vs).all (λr=>r=lv)->M ks=M vs->es.map (·.key)=ks.map (.int kd)->RL β Z w vs (es.map (·.val))->
  (∃s' v,aA (.int kd) (Y kd n) es s=ah (ah (s',v))/\R β Z w lv v/\∃i:Nat,vs[i]? =ah lv)\/(aA (.int kd) (Y kd n) es s=ah aj/\lv=.v z)
 | [],[],es,s,h,_,hk,hr=>by
  exact aLX
 | [],_::_,_,_,_,hl,_,_=>A8
 |_::_,[],_,_,_,hl,_,_=>A8
 | k::ks,v::vs,es,s,h,hl,hk,hr=>by
  cases es with
  |nil=>simp at hk
  | cons e es=>
   simp only [E9,HU] at hk;obtain ⟨y,zs,h1,h2,h3⟩:=hr;obtain ⟨rfl,rfl⟩:=h1;cases hb:(n==k) with
   |true=>
    have:=h.1 hb
    subst this;exact .inl ⟨s,e.val,VF,h2,0,rfl⟩
   |false=>
    have hf:aA (.int kd) (Y kd n) (e::es) s=aA (.int kd) (Y kd n) es (s+1):=VF
    rw [hf];rcases aDO ks vs es (s+1) (h.2 hb) A8 hk.2 h3 with ⟨s',v',q1,q2,i,q3⟩ |q
    ·exact .inl ⟨s',v',q1,q2,i+1,A8⟩
    ·exact .inr q
def mh {kt:TypeId}{kd:IntKind}(hu:P.underlying kt=ah (.int kd)) (e:Bool) (v:Value) (w':World):(Instr.checkKey e 10000 kt v).run P w'=.ok () w':=by
 unfold Instr.checkKey
 simp [CV hu]
theorem adi {t:TypeId}{x q lv:LV}{y z:Value}(hW:RW G w0 Z0 Z β H w) (h:(U9 P H t x q).all λr=>r=lv) (hr:R β Z w x y) (hq:R β Z w q z) (hk:okV (M H) x):
  ∃v,(∀w',(∀b,(Z b\/∃k,x=.om k/\b=(β k).b)->w'.heap[b]? =w.heap[b]?)->(Instr.lookup t y z X).run P w'=.ok v w')/\R β Z w lv v/\okV (M H) lv:=by
 unfold U9 at h;split at h
 ·rename_i kt et hu
  split at h
  ·rename_i kd z0 kd' n hku hz hp
   split at h
   ·rename_i hkd
    obtain ⟨rfl,hz1⟩:=hkd
    have hzq:=Cb hp hq
    have main:∀(r:Nat) (es:Array MapEntry) (clock:Nat) (ks:List Int) (vs:List LV),y=.map (ah r)->w.heap[r]? =ah (.map es clock)->es.toList.map (·.key)=ks.map (.int kd')->RL β Z w vs (es.toList.map (·.val))->M ks=M vs->AS (M H) vs->(cC kd' n z0 ks vs).all (λr=>r=lv)->(Z r\/∃k,x=.om k/\r=(β k).b)->
      ∃v,(∀w',(∀b,(Z b\/∃k,x=.om k/\b=(β k).b)->w'.heap[b]? =w.heap[b]?)->(Instr.lookup t y z X).run P w'=.ok v w')/\R β Z w lv v/\okV (M H) lv:=λr es clock ks vs hy hh hkk hvv hl hok hch hzr=>by
     rcases aDO ks vs es.toList 0 hch hl hkk hvv with ⟨s',v',q1,q2,i,q3⟩ |⟨q1,q2⟩
     ·refine ⟨v',λw' hw'=>?_,q2,AS.get i _ hok q3⟩
      exact aKX
     ·refine ⟨z0,λw' hw'=>?_,by rw [q2];simp [R],by rw [q2];trivial⟩
      exact aKe
    split at h
    ·exact aLn
    ·rename_i k
     split at h
     ·rename_i hb
      split at h
      ·rename_i hkk
       obtain ⟨rfl,hl⟩:=hkk;obtain ⟨b1,b2⟩:=hW.blk k _ hb;obtain ⟨es,clock,g1,g2,g3⟩:=b1;exact aLf
      ·cases h
     ·cases h
    ·cases h
   ·cases h
  ·cases h
 ·cases h
theorem ada {kd:IntKind}{n:Int}{z:Value}{lv:LV}:∀(ks:List Int) (vs:List LV) (es:List MapEntry) (s:Nat),(bn kd n z ks vs).all (λr=>r=lv)->M ks=M vs->es.map (·.key)=ks.map (.int kd)->RL β Z w vs (es.map (·.val))->
  (∃s' v u,aA (.int kd) (Y kd n) es s=ah (ah (s',v))/\R β Z w u v/\lv=.AO [norm u,.bl U]/\∃i:Nat,vs[i]? =ah u)\/(aA (.int kd) (Y kd n) es s=ah aj/\lv=.AO [.v z,.bl X])
 | [],[],es,s,h,_,hk,hr=>by
  exact aLX
 | [],_::_,_,_,_,hl,_,_=>A8
 |_::_,[],_,_,_,hl,_,_=>A8
 | k::ks,v::vs,es,s,h,hl,hk,hr=>by
  cases es with
  |nil=>simp at hk
  | cons e es=>
   simp only [E9,HU] at hk;obtain ⟨y,zs,h1,h2,h3⟩:=hr;obtain ⟨rfl,rfl⟩:=h1;cases hb:(n==k) with
   |true=>
    have:=h.1 hb
    subst this;exact .inl ⟨s,e.val,v,VF,h2,rfl,0,rfl⟩
   |false=>
    have hf:aA (.int kd) (Y kd n) (e::es) s=aA (.int kd) (Y kd n) es (s+1):=VF
    rw [hf];rcases ada ks vs es (s+1) (h.2 hb) A8 hk.2 h3 with ⟨s',v',u',q1,q2,q4,i,q3⟩ |q
    ·exact .inl ⟨s',v',u',q1,q2,q4,i+1,A8⟩
    ·exact .inr q
theorem adN {t:TypeId}{x q lv:LV}{y z:Value}(hW:RW G w0 Z0 Z β H w) (h:(Wz P H t x q).all λr=>r=lv) (hr:R β Z w x y) (hq:R β Z w q z) (hk:okV (M H) x):
  ∃v,(∀w',(∀b,(Z b\/∃k,x=.om k/\b=(β k).b)->w'.heap[b]? =w.heap[b]?)->(Instr.lookup t y z U).run P w'=.ok v w')/\R β Z w lv v/\okV (M H) lv:=by
 unfold Wz at h;split at h
 ·rename_i kt et hu
  split at h
  ·rename_i kd z0 kd' n hku hz hp
   split at h
   ·rename_i hkd
    obtain ⟨rfl,hz1⟩:=hkd
    have hzq:=Cb hp hq
    have main:∀(r:Nat) (es:Array MapEntry) (clock:Nat) (ks:List Int) (vs:List LV),y=.map (ah r)->w.heap[r]? =ah (.map es clock)->es.toList.map (·.key)=ks.map (.int kd')->RL β Z w vs (es.toList.map (·.val))->M ks=M vs->AS (M H) vs->(bn kd' n z0 ks vs).all (λr=>r=lv)->(Z r\/∃k,x=.om k/\r=(β k).b)->
      ∃v,(∀w',(∀b,(Z b\/∃k,x=.om k/\b=(β k).b)->w'.heap[b]? =w.heap[b]?)->(Instr.lookup t y z U).run P w'=.ok v w')/\R β Z w lv v/\okV (M H) lv:=λr es clock ks vs hy hh hkk hvv hl hok hch hzr=>by
     rcases ada ks vs es.toList 0 hch hl hkk hvv with ⟨s',v',u,q1,q2,q4,i,q3⟩ |⟨q1,q2⟩
     ·refine ⟨.tuple #[v',.bool U],λw' hw'=>?_,by rw [q4];exact ⟨_,rfl,v',[.bool U],rfl,Oy q2,_,[],rfl,rfl,rfl⟩,by rw [q4];exact ⟨TB<|AS.get i _ hok q3,ak,ak⟩⟩
      exact aKX
     ·refine ⟨.tuple #[z0,.bool X],λw' hw'=>?_,by rw [q2];exact ⟨_,rfl,z0,[.bool X],rfl,rfl,_,[],rfl,rfl,rfl⟩,by rw [q2];exact ⟨ak,ak,ak⟩⟩
      exact aKe
    split at h
    ·exact aLn
    ·rename_i k
     split at h
     ·rename_i hb
      split at h
      ·rename_i hkk
       obtain ⟨rfl,hl⟩:=hkk;obtain ⟨b1,b2⟩:=hW.blk k _ hb;simp only [BZ] at b1;obtain ⟨es,clock,g1,g2,g3⟩:=b1;simp only [R] at hr;exact aLf
      ·cases h
     ·cases h
    ·cases h
   ·cases h
  ·cases h
 ·cases h
def aE7 {kd:IntKind}{n:Int}:∀(ks:List Int) (es:List MapEntry) (s:Nat),ks.contains n=X->es.map (·.key)=ks.map (.int kd)->aA (.int kd) (Y kd n) es s=ah aj
 | [],es,s,_,hk=>by
  have:es=[]:=G1
  subst this;rfl
 | k::ks,es,s,hc,hk=>by
  cases es with
  |nil=>simp at hk
  |cons e es=>
   simp only [E9,HU] at hk;simp only [List.contains_cons,GJ] at hc
   have hf:aA (.int kd) (Y kd n) (e::es) s=aA (.int kd) (Y kd n) es (s+1):=by simp [aA,Instr.sameNow,hk.1,hc.1]
   rw [hf];exact aE7 ks es (s+1) hc.2 hk.2
theorem aD4 {t:TypeId}{x q r:LV}{y z u:Value}{H':List AB}(hW:RW G w0 Z0 Z β H w) (h:(Ut P H t x q r).all λr=>r=H') (hr:R β Z w x y) (hq:R β Z w q z) (hu:R β Z w r u) (hrk:okV (M H) r):
  ∃w',(Instr.mapUpdate t y z u).run P w=.ok () w'/\RW G w0 Z0 Z β H' w'/\M H'=M H/\(∀b,Z b->w'.heap[b]? =w.heap[b]?)/\DL (DN β H<|owns x) w w':=by
 unfold Ut at h;split at h
 ·rename_i kt et hut
  split at h
  ·rename_i kd kd' n k hku hp
   split at h
   ·rename_i c0 bt kd2 ks vs hb
    split at h
    ·rename_i hle
     obtain ⟨rfl,rfl,hl,hnc⟩:=hle;subst h;obtain ⟨b1,b2⟩:=hW.blk k _ hb;obtain ⟨es,clock,g1,g2,g3⟩:=b1;simp only [R] at hr
     have hzq:=Cb hp hq
     have hlt:=(HX.1 g1).1
     have hget:(getObj (β k).b).run P w=.ok (.map es clock) w:=aNY
     let w':World:={w with heap:=w.heap.setIfInBounds (β k).b<|.map (es.push {key:=z,val:=u,born:=clock})<|clock+1}
     have hset:(setObj (β k).b<|.map (es.push {key:=z,val:=u,born:=clock})<|clock+1).run P w=.ok () w':=aNm
     have hfn:=aE7 ks es.toList 0 hnc g2
     have hlive:=trivial
     have hne:∀j,j≠(β k).b->w'.heap[j]? =w.heap[j]? :=λj hj=>A8
     have hZw:∀b',Z b'->w'.heap[b']? =w.heap[b']? :=λb' hz=>hne b' λe=>hW.Cf k _ hb hlive rfl<|e▸hz
     refine ⟨w',?_,?_,AI,hZw,⟨rfl,rfl,rfl,lS,λj _ hj=>hne j λe=>hj<|e▸TN hb hlive rfl⟩⟩
     ·rw [hzq] at hset
      simp [Instr.mapUpdate,CV hut,hr,hget,mh hku,Instr.findKey,CV hku,hzq,hfn,hset]
     ·refine hW.set hb hlive rfl rfl ⟨ak,AS.append b2.2 ⟨hrk,ak⟩⟩ lS ⟨rfl,rfl,rfl⟩ hne ?_
      refine ⟨es.push {key:=z,val:=u,born:=clock},clock+1,by simp [w',hlt],by simp [g2,hzq],?_⟩
      have h1:RL β Z w (vs++[r]) (es.toList.map (·.val)++[u]):=g3.app (by simp only [RL];exact ⟨u,[],rfl,hu,rfl⟩)
      have hok1:AS (M H) [r]:=⟨hrk,ak⟩
      have h2:=RL.mono (n:=M H) (β':=β) (Z':=Z) (λ_ _=>rfl) (λ_ h=>h) hZw _ _ (AS.append b2.2 hok1) h1
      grind
    ·cases h
   ·cases h
  ·cases h
 ·cases h
def aQq:∀ {e:Ty}{v:Value}{d:e.D},OD e v=ah d->v=aBU e d
 | .int k,v,d,h=>by
  simp only [OD] at h;split at h
  ·split at h
   ·rename_i hk;simp only [Ah] at h;subst h hk;rfl
   ·cases h
  ·cases h
 | .str,v,d,h=>by
  simp only [OD] at h;split at h
  ·simp only [Ah] at h;subst h;rfl
  ·cases h
 | .bool,_,_,h=>yR
 | .sl _,_,_,h=>yR
 | .pair _ _,_,_,h=>yR
def mB:Ty->TypeDesc
 | .int k=> .int k
 |_=> .string
theorem aFG {k:IntKind}{d:Int}:∀(l:List Int) (es:List MapEntry) (s:Nat),es.map (·.key)=l.map (.int k)->(∀x,x∈es->x.val=.bool U)->
  (l.contains d=U/\∃s',aA (.int k) (Y k d) es s=ah (ah (s',.bool U)))\/(l.contains d=X/\aA (.int k) (Y k d) es s=ah aj)
 | [],es,s,hk,_=>by
  exact aMI
 | x::l,es,s,hk,hv=>by
  cases es with
  |nil=>simp at hk
  | cons e es=>
   simp only [E9,HU] at hk;cases hb:(d==x) with
   |true=>
    refine .inl ⟨A8,s,?_⟩
    have hv1:=hv e AI
    simp [aA,Instr.sameNow,hk.1,hb,hv1]
   |false=>
    have hf:aA (.int k) (Y k d) (e::es) s=aA (.int k) (Y k d) es (s+1):=VF
    rw [hf]
    have hc:(x::l).contains d=l.contains d:=A8
    rw [hc];exact aFG l es (s+1) hk.2 λy hy=>hv y A8
theorem aFF {d:ByteArray}:∀(l:List ByteArray) (es:List MapEntry) (s:Nat),es.map (·.key)=l.map .string->(∀x,x∈es->x.val=.bool U)->
  (l.contains d=U/\∃s',aA .string (.string d) es s=ah (ah (s',.bool U)))\/(l.contains d=X/\aA .string (.string d) es s=ah aj)
 | [],es,s,hk,_=>by
  exact aMI
 | x::l,es,s,hk,hv=>by
  cases es with
  |nil=>simp at hk
  | cons e es=>
   simp only [E9,HU] at hk;cases hb:(d==x) with
   |true=>
    refine .inl ⟨A8,s,?_⟩
    have hv1:=hv e AI
    simp [aA,Instr.sameNow,hk.1,hb,hv1]
   |false=>
    have hf:aA .string (.string d) (e::es) s=aA .string (.string d) es (s+1):=VF
    rw [hf]
    have hc:(x::l).contains d=l.contains d:=A8
    rw [hc];exact aFF l es (s+1) hk.2 λy hy=>hv y A8
def aHv {e:Ty}{v:Value}{d:e.D}(hd:OD e v=ah d) (l:List e.D) (es:List MapEntry) (s:Nat) (hk:es.map (·.key)=List.map (aBU e) l) (hv:∀x,x∈es->x.val=.bool U):
  (lu e d l=U/\∃s',aA (mB e) v es s=ah (ah (s',.bool U)))\/(lu e d l=X/\aA (mB e) v es s=ah aj):=by
 have hvv:=aQq hd
 subst hvv;cases e with
 |int k=>exact aFG l es s hk hv
 |str=>exact aFF l es s hk hv
 |bool=>simp [OD] at hd
 |sl _=>simp [OD] at hd
 |pair _ _=>simp [OD] at hd
def aDY {t:TypeId}{e:Ty}(h:aK P t=ah e):∃kt et,P.underlying t=ah (.map kt et)/\P.underlying et=ah .bool/\P.underlying kt=ah (mB e)/\(∀(b:Bool) (v:Value) (w':World),(Instr.checkKey b 10000 kt v).run P w'=.ok () w')/\IG P et=ah (.bool X):=by
 unfold aK at h;split at h
 ·rename_i kt et hu
  split at h
  ·rename_i k h1 h2 h3
   simp only [Ah] at h;subst h;exact ⟨kt,et,hu,h1,h2,λb v w'=>mh h2 b v w',h3⟩
  ·rename_i h1 h2 h3
   simp only [Ah] at h;subst h;exact ⟨kt,et,hu,h1,h2,λb v w'=>by unfold Instr.checkKey;simp [CV h2],h3⟩
  ·cases h
 ·cases h
theorem adk {t:TypeId}{x q lv:LV}{y z:Value}(hW:RW G w0 Z0 Z β H w) (h:(XJ P H t x q).all λr=>r=lv) (hr:R β Z w x y) (hq:R β Z w q z) (hk:okV (M H) x):
  ∃v,(∀w',(∀b,(Z b\/∃k,x=.om k/\b=(β k).b)->w'.heap[b]? =w.heap[b]?)->(Instr.lookup t y z X).run P w'=.ok v w')/\R β Z w lv v/\okV (M H) lv:=by
 unfold XJ at h;split at h
 ·rename_i k
  split at h
  ·rename_i c0 bt e l pp hb
   unfold aaw at h;split at h
   ·rename_i e' v hs hp
    split at h
    ·rename_i he d _ hd
     obtain ⟨he⟩:=he;subst he;subst h;obtain ⟨kt,et,u1,u2,u3,u4,u5⟩:=aDY hs;obtain ⟨b1,b2⟩:=hW.blk k _ hb;obtain ⟨es,clock,g1,g2,g3⟩:=b1;simp only [R] at hr
     have hzq:=Cb hp hq
     rcases aHv hd l es.toList 0 g2 g3 with ⟨m1,s',m2⟩ |⟨m1,m2⟩
     ·refine ⟨.bool U,λw' hw'=>?_,by simp only [R,m1],ak⟩
      have hh':w'.heap[(β k).b]? =ah (.map es clock):=A8
      have hget:(getObj (β k).b).run P w'=.ok (.map es clock) w':=lB
      simp [Instr.lookup,CV u1,hr,hget,u4,Instr.findKey,CV u3,hzq,m2]
     ·refine ⟨.bool X,λw' hw'=>?_,by simp only [R,m1],ak⟩
      have hh':w'.heap[(β k).b]? =ah (.map es clock):=A8
      have hget:(getObj (β k).b).run P w'=.ok (.map es clock) w':=lB
      have hz0:=λw=>mr u5 w
      simp [Instr.lookup,CV u1,hr,hget,u4,Instr.findKey,CV u3,hzq,m2,hz0]
    ·cases h
   ·cases h
  ·exact adi hW h hr hq hk
 ·exact adi hW h hr hq hk
theorem adp {t:TypeId}{x q r:LV}{y z u:Value}{H':List AB}(hW:RW G w0 Z0 Z β H w) (h:(insL P H t x q r).all λr=>r=H') (hr:R β Z w x y) (hq:R β Z w q z) (hu:R β Z w r u) (hrk:okV (M H) r):
  ∃w',(Instr.mapUpdate t y z u).run P w=.ok () w'/\RW G w0 Z0 Z β H' w'/\M H'=M H/\(∀b,Z b->w'.heap[b]? =w.heap[b]?)/\DL (DN β H<|owns x) w w':=by
 unfold insL at h;split at h
 ·rename_i k
  split at h
  ·rename_i c0 bt e l hb
   split at h
   ·rename_i e' v hs hp
    split at h
    ·rename_i he d _ hd
     obtain ⟨he⟩:=he;subst he;obtain ⟨hnm,h⟩:=h;subst h;obtain ⟨kt,et,u1,u2,u3,u4,u5⟩:=aDY hs;obtain ⟨b1,b2⟩:=hW.blk k _ hb;obtain ⟨es,clock,g1,g2,g3⟩:=b1;simp only [R] at hr hu
     have hzq:=Cb hp hq
     have hlt:=(HX.1 g1).1
     have hget:(getObj (β k).b).run P w=.ok (.map es clock) w:=aNY
     let w':World:={w with heap:=w.heap.setIfInBounds (β k).b<|.map (es.push {key:=z,val:=u,born:=clock})<|clock+1}
     have hset:(setObj (β k).b<|.map (es.push {key:=z,val:=u,born:=clock})<|clock+1).run P w=.ok () w':=aNm
     have hfn:aA (mB e') v es.toList 0=ah none:=by
      rcases aHv hd l es.toList 0 g2 g3 with ⟨m1,_⟩ |⟨_,m2⟩
      ·grind
      ·exact m2
     have hlive:=trivial
     have hne:∀j,j≠(β k).b->w'.heap[j]? =w.heap[j]? :=λj hj=>A8
     have hZw:∀b',Z b'->w'.heap[b']? =w.heap[b']? :=λb' hz=>hne b' λe=>hW.Cf k _ hb hlive rfl<|e▸hz
     refine ⟨w',?_,?_,AI,hZw,⟨rfl,rfl,rfl,lS,λj _ hj=>hne j λe=>hj<|e▸TN hb hlive rfl⟩⟩
     ·rw [hzq] at hset
      simp [Instr.mapUpdate,CV u1,hr,hget,u4,Instr.findKey,CV u3,hzq,hfn,hset]
     ·refine hW.set hb hlive rfl rfl ⟨ak,ak⟩ lS ⟨rfl,rfl,rfl⟩ hne ?_
      refine ⟨es.push {key:=z,val:=u,born:=clock},clock+1,by simp [w',hlt],?_,λx hx=>?_⟩
      ·rw [Array.toList_push,Jx,Jx,g2]
       simp [hzq,aQq hd]
      ·rw [Array.toList_push,Be] at hx
       rcases hx with hx|hx
       ·exact g3 x hx
       ·grind
    ·cases h
   ·cases h
  ·exact aD4 hW h hr hq hu hrk
 ·exact aD4 hW h hr hq hu hrk
theorem RW.az3 {kd:IntKind}{t:TypeId}(hW:RW G w0 Z0 Z β H w):
  ∃β',(∀k,k<M H->β' k=β k)/\(β'<|M H).b=w.heap.size/\RW G w0 Z0 Z β' (H++[⟨[],t,.mp kd [] [],X⟩]) (w.alloc<|.map #[] 0)/\Below w.heap.size w (w.alloc<|.map #[] 0):=by
 have hbw:Below w.heap.size w (w.alloc<|.map #[] 0):=(Below.refl _ _).alloc (Ar _) _
 obtain ⟨β',h1,h2,h3⟩:=(hW.same hbw).KO (ℓ:=⟨w.heap.size,0,aj⟩) (nb:=⟨[],t,.mp kd [] [],X⟩) rfl ⟨ak,ak⟩ (λ_=>⟨λhz=>Zw,hW.below.size,λj bj hj lj e=>Sm⟩) (λβ' h1 h2=>by
  simp only [BZ,h2];refine ⟨#[],0,?_,AI,aH⟩
  show (w.heap.push _)[w.heap.size]? =_
  simp)
 grind
theorem RW.az1 {e:Ty}{t:TypeId}(hW:RW G w0 Z0 Z β H w):
  ∃β',(∀k,k<M H->β' k=β k)/\(β'<|M H).b=w.heap.size/\RW G w0 Z0 Z β' (H++[⟨[],t,.st e [],X⟩]) (w.alloc<|.map #[] 0)/\Below w.heap.size w (w.alloc<|.map #[] 0):=by
 have hbw:Below w.heap.size w (w.alloc<|.map #[] 0):=(Below.refl _ _).alloc (Ar _) _
 obtain ⟨β',h1,h2,h3⟩:=(hW.same hbw).KO (ℓ:=⟨w.heap.size,0,aj⟩) (nb:=⟨[],t,.st e [],X⟩) rfl ⟨ak,ak⟩ (λ_=>⟨λhz=>Zw,hW.below.size,λj bj hj lj e=>Sm⟩) (λβ' h1 h2=>by
  simp only [BZ,h2];refine ⟨#[],0,?_,AI,AI⟩
  show (w.heap.push _)[w.heap.size]? =_
  simp)
 grind
end Go.Sx
namespace Go.Sx
open Go Go.RowKit Go.Proofs.YtipodhghjclmbaaGreatDoor
variable {P : Program} {G : B1} {Γ : Specs} {β : Nat -> Loc} {Z : Nat -> Prop} {Z0 : Gz} {w w0 : World} {F : List LV} {H : List AB} {a : Act} {ds : List Deferred}
abbrev β0:Nat->Loc:=λ_=>⟨0,0,aj⟩
def Valid (P:Program) (G:B1) (f:FuncId) (S:List LV->T LV):Prop:=
 ∀(args:List LV) (vals:Array Value) (w:World) (Z:Nat->Prop) (lv:LV),(∀b,Z b->b<w.heap.size)->Pg G Z w->AS 0 args->RL β0 Z w args vals.toList->(S args).all (λx=>x=lv)->
  Calls P f vals w λe w'=>Below w.heap.size w w'/\∃v,e=.returned v/\okV 0 lv/\R β0 (λb=>Z b\/(w.heap.size<=b/\b<w'.heap.size)) w' lv v
mutual
def noOwn_ok {n:Nat}:∀(x:LV),noOwn x=U->okV n x->okV 0 x
 | .v _,_,_=>trivial
 | .bl _,_,_=>trivial
 | .ki _ _,_,_=>trivial
 | .own _ _,h,_=>lJ
 | .agg l,h,hk=>Zl
 | .AO l,h,hk=>Zl
 | .fn _ l,h,hk=>Zl
 | .fb _ l,h,hk=>Zl
 | .xq _ _,_,hk=>aNx
 | .os ..,h,_=>lJ
 | .op ..,h,_=>lJ
 | .om _,h,_=>lJ
 | .mp _ _ l,h,hk=>Zl
 | .xl _ _,_,_=>trivial
 | .junk,_,_=>trivial
def noOwnL_ok {n:Nat}:∀(x:List LV),noOwnL x=U->AS n x->AS 0 x
 | [],_,_=>trivial
 |x::xs,h,hk=>by
  simp only [AS,noOwnL,AY] at*;exact ⟨noOwn_ok x h.1 hk.1,noOwnL_ok xs h.2 hk.2⟩
end
def aD5 {t:T LV}{lv:LV}(h:(QS t).all λx=>x=lv):t.all (λx=>x=lv)/\S7 lv=true:=by
 induction t with
 |ok x=>
  simp only [QS] at h;split at h
  ·rename_i hp;simp only [T.all] at h|-;subst h;exact ⟨rfl,hp⟩
  ·cases h
 |br b t e iht ihe=>
  cases b with
  |true=>obtain ⟨h1,h2⟩:=iht<|h.1 rfl;exact ⟨⟨λ_=>h1,λhb=>L4⟩,h2⟩
  |false=>obtain ⟨h1,h2⟩:=ihe<|h.2 rfl;exact ⟨⟨λhb=>L4,λ_=>h1⟩,h2⟩
 |req p t ih=>
  obtain ⟨h1,h2⟩:=ih h.2;exact ⟨⟨h.1,h1⟩,h2⟩
 |no=>cases h
def Ox (G:B1) (F:List LV) (β:Nat->Loc) (H:List AB) (o:Oper):List Nat:=DN β H<|Ea G F o
def Post (ds:List Deferred) (G:B1) (w0:World) (Z0:Gz) (F:List LV) (a:Act) (β:Nat->Loc) (H:List AB) (w:World) (o:Oper) (lv:LV) (H':List AB) (v:Value) (w':World):Prop:=
 ∃Z' β',RW G w0 Z0 Z' β' H' w'/\RF ds β' Z' w' (M H') F a/\R β' Z' w' lv v/\okV (M H') lv/\
  (M H)<=M H'/\(∀k,k<M H->β' k=β k)/\(∀k,M H<=k->k<M H'->w.heap.size<=(β' k).b\/(β' k).b∈Ox G F β H o)/\DL (Ox G F β H o) w w'
def NH {tr:List Nat}{w w':World}(h:Below w.heap.size w w'):DL tr w w':=⟨h.os,h.tape,h.output,h.size,λk hk _=>h.block k hk⟩
def aDB {o:Oper}{lv:LV}{v:Value}(hW:RW G w0 Z0 Z β H w) (hF:RF ds β Z w (M H) F a) (hrun:(execOp a.eval o).run P w=.ok (.value v) w) (hr:R β Z w lv v) (hk:okV (M H) lv):
  DU P (Post ds G w0 Z0 F a β H w o lv H) ((execOp a.eval o).run P w):=by
 rw [hrun];exact ⟨Z,β,hW,hF,hr,hk,Ar _,λ_ _=>rfl,λk h1 h2=>A0,DL.refl _ _⟩
def aBy {α:Type}{s:Sem α}{x:α}(h:Ip P s=ah x):∀w',s.run P w'=.ok x w':=λw'=>bb w' h
mutual
def eqV_run:∀(d:Nat) (t:TypeId) (x y:Value) (b:Bool),eqV P d t x y=ah b->∀(e:Nat) (w:World),(Go.Op.equalIn (d+e) t x y).run P w=.ok b w
 |0,_,_,_,_,h=>by simp [eqV] at h
 | d+1,t,x,y,b,h=>λe w=>by
  rw [Nat.add_right_comm];simp only [eqV] at h;split at h
  ·rename_i k0 k a k' c hu
   split at h
   ·rename_i hk
    subst hk;simp only [Ah] at h;subst h;exact run_equalIn_int w _ t k k0 a c hu
   ·cases h
  ·rename_i a c hu
   simp only [Ah] at h;subst h;exact run_equalIn_bool w _ t a c hu
  ·rename_i a c hu
   simp only [Ah] at h;subst h;rw [run_equalIn_string w _ t a c hu,beq_toListBytes]
  ·rename_i fs xs ys hu
   split at h
   ·cases h
   ·rename_i hs
    have hf:P.fieldsOf t=fs:=by simp [Program.fieldsOf,hu]
    rw [run_equalIn_struct w _ t xs ys (by rw [hf];exact hu) (by simpa using hs),hf]
    simp only [Option.map_eq_some_iff] at h;obtain ⟨l,h1,h2⟩:=h;rw [<-h2];exact eqFs_run d xs ys fs.toList l h1 e w
  ·cases h
def eqFs_run:∀(d:Nat) (xs ys:Array Value) (fs:List Field) (l:List Bool),eqFs P d xs ys fs=ah l->∀(e:Nat) (w:World),(Go.Op.eqFields (d+e) xs ys fs).run P w=.ok (Uz l) w
 |d,xs,ys,[],l,h=>λe w=>by
  have:l=[]:=by cases d<;>simpa [eqFs] using h.symm
  subst this
  simp [Go.Op.eqFields,Uz]
 |0,xs,ys,f::fs,l,h=>by simp [eqFs] at h
 | d +1,xs,ys,f::fs,l,h=>λe w=>by
  simp only [eqFs] at h;split at h
  ·cases h
  ·rename_i hn
   split at h
   ·rename_i x y hx hy
    split at h
    ·rename_i p ps hp hps
     simp only [Ah] at h;subst h
     have e1:=aBy hx w
     have e2:=aBy hy w
     have e3:=eqV_run d f.type x y p hp (1+e) w
     have e4:=eqFs_run d xs ys fs ps hps (1+e) w
     rw [<-HV] at e3 e4;simp only [Go.Op.eqFields,hn,ne_eq,not_false_eq_true,Bm,kL,e1,e2,e3,jz,Sem.run_ite,xG,e4];cases p with
     |false=>cases ps<;>simp [Uz]
     |true=>cases ps<;>simp [Uz]
    ·cases h
   ·cases h
end
def afU {o:Oper}{e:Operand->Value}{y:Value}(h:QY P o.op e=ah (ah y)) (w:World):(execOp e o).run P w=.ok (.value y) w:=by
 unfold QY at h;split at h
 ·rename_i op t x z t' ho
  split at h
  ·rename_i neg hneg
   split at h
   ·rename_i xs ys hx hy
    split at h
    ·rename_i g1 b g2 g3
     have e1:=aBy g2 w
     have e2:=eqV_run 100 t _ _ b g3 9900 w
     simp only [Ah] at h;unfold aQd at hneg;split at hneg
     ·simp only [Ah] at hneg
      subst hneg h
      simp [execOp,ho,hx,hy,e1,run_eql_struct,e2]
     ·simp only [Ah] at hneg
      subst hneg h
      simp [execOp,ho,hx,hy,e1,run_neq_struct,e2]
     ·cases hneg
    ·cases h
   ·cases h
  ·cases h
 ·cases h
def aF9 {o:Oper}{e:Operand->Value}{y:Value}(h:OJ P o e=ah y) (w:World):(execOp e o).run P w=.ok (.value y) w:=by
 unfold OJ at h;split at h
 ·rename_i r hr
  subst h;exact afU hr w
 ·split at h
  ·rename_i z hz
   simp only [Ah] at h;subst h;exact bb w hz
  ·cases h
def aK1 (y:Value):R β Z w (kn y) y:=by cases y<;>simp only [kn,R]
def ab4 {n:Nat}(y:Value):okV n (kn y):=by cases y<;>trivial
theorem aey {o:Oper}{lv:LV}(hsel:∀cs b,o.op≠ .select cs b) (hW:RW G w0 Z0 Z β H w) (hF:RF ds β Z w (M H) F a) (h:(DX P G F o).all λx=>x=lv):
  DU P (Post ds G w0 Z0 F a β H w o lv H) ((execOp a.eval o).run P w):=by
 unfold DX at h;split at h
 ·rename_i hpl
  split at h
  ·rename_i y hy
   have hcong:execOp a.eval o=execOp (λx=>(pl<|AL G F x).getD undef) o:=kT o hsel λx hx=>by
    have h1:=BP.1 hpl x A8
    obtain ⟨z,hz⟩:=ZH.1 h1;rw [hz];exact Cb hz (hF.eval hW.CW x).1
   refine aDB hW hF (v:=y) ?_ ?_ ?_
   ·rw [hcong];exact aF9 hy w
   ·rw [<-h]
    split
    ·exact aK1 y
    ·exact Dk
   ·rw [<-h]
    split
    ·exact ab4 y
    ·trivial
  ·cases h
 ·cases h
theorem ade {c x y lv:LV}{vc vx vy:Value}{n:Nat}(h:(gg c x y).all λz=>z=lv) (hc:R β Z w c vc) (hx:R β Z w x vx) (hy:R β Z w y vy) (kx:okV n x) (ky:okV n y):
  ∃g,vc=.bool g/\R β Z w lv (if g then vx else vy)/\okV n lv:=by
 unfold gg at h;split at h
 ·simp only [T.all] at h;subst h;exact ⟨U,hc,hx,kx⟩
 ·simp only [T.all] at h;subst h;exact ⟨X,hc,hy,ky⟩
 ·rename_i g
  refine ⟨g,hc,?_⟩
  have hx':=Oy hx
  have hy':=Oy hy
  split at h
  ·rename_i h1 h2
   split at h
   ·rename_i hk;simp only [T.all] at h;subst h hk;rw [h1] at hx';rw [h2] at hy';simp only [R] at hx' hy'|-;subst hx' hy';exact ⟨A8,ak⟩
   ·cases h
  ·rename_i h1 h2
   simp only [T.all] at h;subst h;rw [h1] at hx';rw [h2] at hy';simp only [R] at hx' hy'|-;subst hx' hy';exact ⟨A8,ak⟩
  ·simp only [T.all] at h
   cases g with
   |true=>have:=h.1 rfl;subst this;exact ⟨hx,kx⟩
   |false=>have:=h.2 rfl;subst this;exact ⟨hy,ky⟩
 ·cases h
theorem aDN {t:TypeId}{l:List LV}{lv:LV}{ys:Array Value}{i n:Nat}(h:(aBY P t l i).all λz=>z=lv) (hr:RL β Z w l ys.toList) (hk:AS n l):
  ∃z,(∀w',(Instr.field t (.agg ys) i).run P w'=.ok z w')/\R β Z w lv z/\okV n lv:=by
 unfold aBY at h;split at h
 ·rename_i fs hu
  split at h
  ·rename_i f hf
   split at h
   ·rename_i m ha hs
    split at h
    ·simp only [T.all] at h
     subst h;refine ⟨.agg<|ys.extract f.offset<|f.offset+m,λw'=>?_,Vz ?_,QB<|hk.take_drop _ _⟩
     ·simp [Instr.field,CV hu,hf,asAgg,part,bz ha,run_sizeOf hs]
     ·have:=hr.take_drop f.offset m
      simp_all
    ·cases h
   ·rename_i ha
    split at h
    ·rename_i y hy
     subst h;obtain ⟨z,e4,e5⟩:=RL.get _ _ hr hy
     have e6:ys[f.offset]? =ah z:=A8
     refine ⟨z,λw'=>?_,e5,AS.get _ _ hk hy⟩
     simp [Instr.field,CV hu,hf,asAgg,part,bz ha,e6]
    ·cases h
   ·cases h
  ·cases h
 ·cases h
theorem adR {s:TypeId}{x lv:LV}{y:Value}{i n:Nat}(h:(Wn P s x i).all λz=>z=lv) (hr:R β Z w x y) (hk:okV n x):
  ∃z,(∀w',(Instr.fieldAt s y i).run P w'=.ok z w')/\R β Z w lv z/\okV n lv:=by
 unfold Wn at h;split at h
 ·rename_i fs hu
  split at h
  ·rename_i f hf
   split at h
   ·rename_i m hsz
    have e1:=λw=>run_sizeOf hsz w
    split at h
    ·rename_i k off
     simp only [R] at hr;refine ⟨.pointer<|ah ⟨(β k).b,off+f.offset,aj⟩,λw'=>?_,?_,?_⟩
     ·simp [Instr.fieldAt,CV hu,hf,Instr.sureAddr,hr,fieldPlace,e1,addr_add]
     ·rw [<-h];simp only [R]
     ·rw [<-h];simpa only [okV] using hk
    ·rename_i k es i' j
     obtain ⟨hcap,hr⟩:=hr;refine ⟨.pointer<|ah ⟨(β k).b,(β k).o+i'*es+(j+f.offset),aj⟩,λw'=>?_,?_,?_⟩
     ·simp [Instr.fieldAt,CV hu,hf,Instr.sureAddr,hr,fieldPlace,e1,addr_add,HV]
     ·rw [<-h];simp only [R];exact ⟨hcap,ak⟩
     ·rw [<-h];simpa only [okV] using hk
    ·rename_i q g
     split at h
     ·rename_i hle
      obtain ⟨b,off,h1,h2,h3⟩:=hr;refine ⟨.pointer<|ah ⟨b,off+f.offset,aj⟩,λw'=>?_,?_,?_⟩
      ·simp [Instr.fieldAt,CV hu,hf,Instr.sureAddr,h1,fieldPlace,e1,addr_add]
      ·rw [<-h]
       refine ⟨b,off+f.offset,rfl,h2,λj hj=>?_⟩
       have:=h3 (f.offset+j) A0
       grind
      ·rw [<-h];simp only [okV] at hk|-;exact λj=>hk _
     ·cases h
    ·cases h
   ·cases h
  ·cases h
 ·cases h
theorem bg {n:Int}{g:Nat->LV}{lv:LV}:∀(m j:Nat),(chain n g m j).all (λz=>z=lv)->∃i,j<=i/\i<j+m/\n=(i:Int)/\lv=g i
 |0,j,h=>Ao
 | m+1,j,h=>by
  simp only [chain,T.all] at h
  by_cases hn:n=(j:Int)
  ·grind
  ·obtain ⟨i,h1,h2,h3,h4⟩:=bg m (j+1) (h.2 A8)
   grind
def aDG {x:LV}{y:Value}{l:List LV}{n:Nat}(h:wQ x=ah l) (hr:R β Z w x y) (hk:okV n x):∃ys:Array Value,y=.agg ys/\RL β Z w l ys.toList/\AS n l:=by
 unfold wQ at h;split at h
 ·obtain rfl:=Dw h
  obtain ⟨ys,e1,e2⟩:=hr;exact ⟨ys,e1,e2,hk⟩
 ·rename_i ys
  obtain rfl:=Dw h;exact ⟨ys,hr,Uf _,TZ _ _⟩
 ·cases h
theorem aDJ {t:TypeId}{l:List LV}{q lv:LV}{ys:Array Value}{z:Value}{n:Nat}(h:(aBS P t l q).all λr=>r=lv) (hr:RL β Z w l ys.toList) (hk:AS n l) (hq:R β Z w q z):
  ∃v,(∀w',(Instr.index t (.agg ys) z).run P w'=.ok v w')/\R β Z w lv v/\okV n lv:=by
 unfold aBS at h;split at h
 ·rename_i len e k j hu
  split at h
  ·rename_i y ha hs hy
   split at h
   ·rename_i hb
    subst h;simp only [R] at hq;obtain ⟨v,e4,e5⟩:=RL.get _ _ hr hy
    have e6:ys[j.toNat]? =ah v:=A8
    refine ⟨v,λw'=>?_,e5,AS.get _ _ hk hy⟩
    simp [Instr.index,hq,asIntOf,CV hu,hb.1,hb.2,part,bz ha,run_sizeOf hs,e6]
   ·cases h
  ·cases h
 ·cases h
theorem aBx {t:TypeId} {x q lv:LV} {y z:Value} {c:Bool} {N:Nat} (h:(TU P t x c q).all λr=>r=lv) (hr:R β Z w x y) (hq:R β Z w q z) (hk:okV N x):
  ∃v,(∀w',(Instr.indexAt t y z).run P w'=.ok v w')/\R β Z w lv v/\okV N lv:=by
 unfold TU at h;simp only [atW] at h;split at h
 ·rename_i kd n hpl
  have hz:=Cb hpl hq
  split at h
  ·rename_i len e hu
   split at h
   ·rename_i m hsz
    have e1:=λw=>run_sizeOf hsz w
    have fin:∀(b off i:Nat),i<len->n=(i:Int)->y=.pointer (ah ⟨b,off,aj⟩)->∀w',(Instr.indexAt t y z).run P w'=.ok (.pointer<|ah ⟨b,off+i*(m+1),aj⟩) w':=λb off i hi hn hy w'=>by
     have h0:(0:Int)<=n:=A0
     have h1:n<(len:Int):=A0
     have h2:n.toNat=i:=A0
     simp [Instr.indexAt,hz,asIntOf,CV hu,hy,Instr.sureAddr,h0,h1,e1,addr_add,h2]
    have own:∀(k off i:Nat),i<len->n=(i:Int)->R β Z w (.own k off) y->okV N (.own k off)->lv=.own k (off+i*(m+1))->∃v,(∀w',(Instr.indexAt t y z).run P w'=.ok v w')/\R β Z w lv v/\okV N lv:=λk off i hi hn hr hk hl=>by
     simp only [R] at hr;refine ⟨_,fin _ _ i hi hn hr,?_,?_⟩
     ·rw [hl];simp only [R]
     ·exact xj
    have opp:∀(k es i' j i:Nat),i<len->n=(i:Int)->R β Z w (.op k es i' j) y->okV N (.op k es i' j)->lv=.op k es i' (j+i*(m+1))->∃v,(∀w',(Instr.indexAt t y z).run P w'=.ok v w')/\R β Z w lv v/\okV N lv:=λk es i' j i hi hn hr hk hl=>by
     simp only [R] at hr;refine ⟨_,fin _ _ i hi hn hr.2,?_,?_⟩
     ·rw [hl];simp only [R,HV];exact ⟨hr.1,ak⟩
     ·exact xj
    have ext:∀(q:Nat) (g:Nat->LV) (i:Nat),i<len->len*(m+1)<=q->n=(i:Int)->R β Z w (.xq q g) y->okV N (.xq q g)->lv=.xq (m+1) (λj=>g<|i*(m+1)+j)->∃v,(∀w',(Instr.indexAt t y z).run P w'=.ok v w')/\R β Z w lv v/\okV N lv:=λq g i hi hle hn hr hk hl=>by
     simp only [R] at hr;obtain ⟨b,off,h1,h2,h3⟩:=hr;refine ⟨_,fin _ _ i hi hn h1,?_,?_⟩
     ·rw [hl]
      simp only [R];refine ⟨b,_,rfl,h2,λj hj=>?_⟩
      have hm:i*(m+1)+(m+1)<=len*(m+1):=by
       have:=N8 (m+1) (show i+1<=len by omega)
       rwa [Fz,Sd] at this
      have:=h3 (i*(m+1)+j) A0
      rwa [<-HV] at this
     ·rw [hl];simp only [okV] at hk|-;exact λj=>hk _
    split at h
    ·rename_i k es i' j
     split at h
     ·split at h
      ·rename_i hb
       simp only [T.all] at h;exact opp k es i' j n.toNat A0 A0 hr hk h.symm
      ·cases h
     ·obtain ⟨i,_,h2,h3,h4⟩:=bg _ _ h
      exact opp k es i' j i A0 h3 hr hk h4
    ·rename_i k off
     split at h
     ·split at h
      ·rename_i hb
       simp only [T.all] at h;exact own k off n.toNat A0 A0 hr hk h.symm
      ·cases h
     ·obtain ⟨i,_,h2,h3,h4⟩:=bg _ _ h
      exact own k off i A0 h3 hr hk h4
    ·rename_i q g
     split at h
     ·rename_i hle
      split at h
      ·split at h
       ·rename_i hb
        simp only [T.all] at h;exact aLY
       ·cases h
      ·split at h
       ·obtain ⟨i,_,h2,h3,h4⟩:=bg _ _ h
        exact ext q g i A0 hle h3 hr hk h4
       ·simp only [T.all] at h
        obtain ⟨⟨b1,b2⟩,h⟩:=h;exact aLY
     ·cases h
    ·cases h
   ·cases h
  ·rename_i e hu
   split at h
   ·rename_i m e' l hsz
    split at h
    ·rename_i hes
     simp only [T.all] at h;obtain ⟨⟨h0,h1⟩,h2⟩:=h;simp only [R] at hr;obtain ⟨ad,cap,g1,gc,g2⟩:=hr;obtain ⟨b,off,g3,g4,g5⟩:=g2 A0
     have e1:=λw=>run_sizeOf hsz w
     have hlt:n.toNat<M l:=A0
     have hgx:l[n.toNat]? =ah (gx l n):=A8
     have g6:=g5 n.toNat _ hgx
     refine ⟨.pointer<|ah ⟨b,off+n.toNat*(m+1),aj⟩,λw'=>?_,?_,?_⟩
     ·simp [Instr.indexAt,hz,asIntOf,CV hu,g1,g3,h0,h1,e1,addr_add]
     ·rw [<-h2]
      simp only [R];refine ⟨b,_,rfl,g4,λj hj=>?_⟩
      rw [hes] at g6
      have hjl:j<M (Bn e'<|gx l n):=yp
      exact Wo e' _ b _ g6 j _<|getD_lt hjl
     ·rw [<-h2]
      simp only [okV];exact λj=>dP (NT 0 e' _) j
    ·cases h
   ·rename_i m k es off len hsz
    split at h
    ·rename_i hes
     simp only [T.all] at h;obtain ⟨⟨h0,h1⟩,h2⟩:=h
     have e1:=λw=>run_sizeOf hsz w
     simp only [R] at hr;split at hr
     ·obtain ⟨rfl,_,_⟩:=hr
      exact absurd h1 D2
     ·rename_i c hcap
      obtain ⟨g1,ad,g2,g3⟩:=hr
      have g3:=g3 A0
      refine ⟨.pointer<|ah ⟨(β k).b,(β k).o+(off+n.toNat)*es+0,aj⟩,λw'=>?_,?_,?_⟩
      ·simp [Instr.indexAt,hz,asIntOf,CV hu,g2,g3,h0,h1,e1,addr_add,hes,Fz,HV]
      ·rw [<-h2];simp only [R];exact ⟨by rw [hcap];simp,ak⟩
      ·rw [<-h2];simpa only [okV] using hk
    ·cases h
   ·rename_i m k es off len cp hsz
    split at h
    ·rename_i hes
     have e1:=λw=>run_sizeOf hsz w
     have own:∀(i:Nat),i<len->n=(i:Int)->lv=.own k ((off+i)*(m+1))->∃v,(∀w',(Instr.indexAt t y z).run P w'=.ok v w')/\R β Z w lv v/\okV N lv:=λi hi hn hl=>by
      simp only [R] at hr;obtain ⟨g1,ad,g2,g3⟩:=hr
      have g3:=g3 A0
      have h0:(0:Int)<=n:=A0
      have h1:n<(len:Int):=A0
      have h2:n.toNat=i:=A0
      refine ⟨.pointer<|ah ⟨(β k).b,(off+i)*(m+1),aj⟩,λw'=>?_,?_,?_⟩
      ·simp [Instr.indexAt,hz,asIntOf,CV hu,g2,g3,h0,h1,e1,addr_add,hes,Fz,h2]
      ·rw [hl];simp only [R]
      ·exact xj
     split at h
     ·split at h
      ·rename_i hb
       simp only [T.all] at h;exact own n.toNat A0 A0 h.symm
      ·cases h
     ·obtain ⟨i,_,h2,h3,h4⟩:=bg _ _ h
      exact own i A0 h3 h4
    ·cases h
   ·cases h
  ·cases h
 ·cases h
theorem aFE (off:Nat):∀(l:List Value) (s:Nat) (zs:Array Value) (i:Nat),off+s+M l<=zs.size->
  ((l.zipIdx s).foldl (λ(cs:Array Value) p=>cs.setIfInBounds (off+p.2) p.1) zs).size=zs.size/\
  ((l.zipIdx s).foldl (λ(cs:Array Value) p=>cs.setIfInBounds (off+p.2) p.1) zs)[i]? =if off+s<=i/\i<off+s+M l then l[i-(off+s)]? else zs[i]?
 | [],s,zs,i,_=>by simp;intro h1 h2;omega
 | x::xs,s,zs,i,h=>by
  simp only [List.zipIdx_cons,Jy];obtain ⟨h1,h2⟩:=aFE off xs (s+1) (zs.setIfInBounds (off+s) x) i A8;refine ⟨A8,?_⟩;rw [h2];simp only [Bk] at h|-
  by_cases hi:i=off+s
  ·subst hi
   rw [AE A0,AD A0,Array.getElem?_setIfInBounds,AD rfl,AD A0]
   simp
  ·by_cases hr:off+(s+1)<=i/\i<off+(s+1)+M xs
   ·rw [AD hr,AD A0]
    grind
   ·rw [AE hr,AE A0]
    grind
theorem aev (off:Nat) (vs zs:Array Value) (h:off+vs.size<=zs.size):
  (vs.zipIdx.foldl (λ(cs:Array Value) (p:Value×Nat)=>cs.setIfInBounds (off+p.2) p.1) zs).toList=zs.toList.take off++vs.toList++zs.toList.drop (off+M vs.toList):=by
 have e:vs.zipIdx.foldl (λ(cs:Array Value) (p:Value×Nat)=>cs.setIfInBounds (off+p.2) p.1) zs=(vs.toList.zipIdx 0).foldl (λ(cs:Array Value) p=>cs.setIfInBounds (off+p.2) p.1) zs:=by
  rw [<-Array.foldl_toList];simp
 rw [e]
 apply List.ext_getElem?
 intro i
 have:=(aFE off vs.toList 0 zs i A8).2
 rw [Array.getElem?_toList,this];simp only [ZQ,xD]
 by_cases h1:i<off
 ·grind
 ·by_cases h2:i<off+vs.size
  ·rw [AD A0,Cl,GL A8,HW A8]
   grind
  ·rw [AE A0,GL A8,F8]
   simp
   congr 1
   omega
theorem ba {place:Nat->Option (Nat×Nat)}{n:Nat}:∀(pl:List<|Nat×LV) (pv:List<|Nat×Value) (cells cs:List LV) (zs:Array Value),KV place cells pl=ah cs->pv.map (·.1)=pl.map (·.1)->
  RL β Z w (pl.map (·.2)) (pv.map (·.2))->AS n (pl.map (·.2))->RL β Z w cells zs.toList->AS n cells->∃zs',Instr.fill place zs pv=ah zs'/\RL β Z w cs zs'.toList/\AS n cs
 | [],pv,cells,cs,zs,h,hp,hr,_,hc,hok=>by
  simp only [KV,Ah] at h;subst h
  have:pv=[]:=G1
  subst this;exact ⟨zs,rfl,hc,hok⟩
 | (i,x)::rest,pv,cells,cs,zs,h,hp,hr,hk,hc,hok=>by
  cases pv with
  |nil=>simp at hp
  | cons q qs=>
   obtain ⟨i',v⟩:=q;simp only [E9,HU] at hp;obtain ⟨rfl,hp'⟩:=hp;obtain ⟨y,ys,e1,e2,e3⟩:=hr;obtain ⟨rfl,rfl⟩:=e1;simp only [KV] at h;split at h
   ·rename_i off size c hpl hcl
    split at h
    ·rename_i hle
     obtain ⟨c1,c2⟩:=nq hcl e2
     have c3:=nT hcl hk.1
     have l1:=RL.length c1
     have l2:=RL.length hc
     have hle2:off+v.cells.size<=zs.size:=A8
     have hset:=aev off v.cells zs hle2
     have hrl:=RL.setAt hc c1 off
     rw [<-hset] at hrl;obtain ⟨zs',f1,f2,f3⟩:=ba rest qs _ cs _ h hp' e3 hk.2 hrl<|AS.setAt hok c3 off;refine ⟨zs',?_,f2,f3⟩;simp only [Instr.fill,hpl]
     grind
    ·cases h
   ·cases h
def adX {t:TypeId}{pl:List<|Nat×LV}{pv:Array<|Nat×Value}{lv:LV}{n:Nat}(h:(NZ P t pl).all λz=>z=lv) (hp:pv.toList.map (·.1)=pl.map (·.1)) (hr:RL β Z w (pl.map (·.2))<|pv.toList.map (·.2)) (hk:AS n<|pl.map (·.2)):
  ∃v,(∀w',(Instr.build t pv).run P w'=.ok v w')/\R β Z w lv v/\okV n lv:=by
 unfold NZ at h;split at h
 ·rename_i z pf hz hpf
  split at h
  ·rename_i cs hcs
   obtain ⟨zs',f1,f2,f3⟩:=ba (β:=β) (Z:=Z) (w:=w) (n:=n) pl pv.toList _ cs z.cells hcs hp hr hk (Uf _)<|TZ _ _;refine ⟨.agg zs',λw'=>run_build w' t pv zs' ?_,?_,?_⟩
   ·unfold IG at hz
    unfold aOB at hpf;unfold Program.built;cases hi:P.info? t with
    |none=>simp [hi] at hz
    | some it=>
     simp only [hi,OU] at hz;split at hpf
     ·rename_i fields hu
      cases hm:fields.toList.mapM (λf=>(P.info? f.type).map λi=>(f.offset,i.size)) with
      |none=>simp [hm] at hpf
      |some ps=>
       simp only [hm,JQ,Ah] at hpf;simp only [hu,hz,hm];rw [<-hpf] at f1;exact f1
     ·rename_i e hu
      cases hm:P.info? e with
      |none=>simp [hm] at hpf
      |some ie=>
       simp only [hm,JQ,Ah] at hpf;simp only [hu,hz,hm];rw [<-hpf] at f1;exact f1
     ·cases hpf
   ·rw [<-h]
    split
    ·simp only [R];exact ⟨zs',rfl,f2⟩
    ·exact Vz f2
   ·rw [<-h]
    split
    ·exact f3
    ·exact QB f3
  ·cases h
 ·cases h
def cv {x:Operand}{y:Value}{n:Nat}(h:R β Z w (AL G F x) y/\okV n (AL G F x)):R β Z w (Hh G F x) y/\okV n (Hh G F x):=by
 cases x with
 |const v=>exact ⟨Oy h.1,TB h.2⟩
 |tmp t=>exact h
 |global g=>exact h
 |func f=>exact h
theorem tm (e:Ty):∀(n:Nat) (cs:List LV) (l:List e.D) (ys:List Value),aT e n cs=ah l->RL β Z w cs ys->M l=n/\∀(Z':Nat->Prop) (w':World) (b o:Nat),(∀b,Z b->Z' b)->(∀b,Z b->w'.heap[b]? =w.heap[b]?)->(∀(j:Nat) v,ys[j]? =ah v->w'.cell? ⟨b,o+j,aj⟩=ah v)->∀(i:Nat) (d:e.D),l[i]? =ah d->RD Z' w' e d b (o+i*e.n)
 |0,cs,l,ys,h,hr=>by
  simp only [aT,Ah] at h
  grind
 | n +1,cs,l,ys,h,hr=>by
  simp only [aT] at h;split at h
  ·rename_i d r hd hr'
   simp only [Ah] at h;subst h
   have h1:RL β Z w (cs.take e.n) (ys.take e.n):=by simpa using hr.take_drop 0 e.n
   have h2:RL β Z w (cs.drop e.n) (ys.drop e.n):=by
    refine RL.CQ (by simp [RL.length hr]) λi z hz=>?_
    rw [F8] at hz|-;exact RL.get _ _ hr hz
   obtain ⟨k1,k2⟩:=tm e n _ r _ hr' h2;refine ⟨A8,λZ' w' b o hZ hw hc i d' hd'=>?_⟩
   cases i with
   |zero=>
    simp at hd'
    subst hd';rw [k8,ZQ];refine tn hZ hw e _ d _ hd h1 b o λj v hv=>?_
    rw [Kz] at hv;split at hv
    ·grind
    ·cases hv
   | succ i=>
    have:=k2 Z' w' b (o+e.n) hZ hw (λj v hv=>by
     rw [F8] at hv
     have:=hc (e.n+j) v hv
     rwa [<-HV] at this) i d' hd'
    grind
  ·cases h
def aCy {t:TypeId}{len:Nat}{pl:List<|Nat×LV}{pv:Array<|Nat×Value}{lv:LV}{n:Nat}(h:(Li P t len pl).all λz=>z=lv) (hp:pv.toList.map (·.1)=pl.map (·.1)) (hr:RL β Z w (pl.map (·.2))<|pv.toList.map (·.2)) (hk:AS n<|pl.map (·.2)):
  ∃elem cells,(∀w',(Instr.buildSlice t len pv).run P w'=.ok (.slice (ah ⟨w'.heap.size,0,aj⟩) len len) (w'.alloc<|.cells cells elem))/\
   (∀(β':Nat->Loc) (Z':Nat->Prop) (w':World) (b:Nat),(∀b,Z b->Z' b)->(∀b,Z b->w'.heap[b]? =w.heap[b]?)->(∀(j:Nat) v,cells.toList[j]? =ah v->w'.cell? ⟨b,0+j,aj⟩=ah v)->Z' b->R β' Z' w' lv (.slice (ah ⟨b,0,aj⟩) len len))/\okV n lv:=by
 unfold Li at h;split at h
 ·rename_i e hu
  split at h
  ·rename_i ty m z hty hsz hz
   split at h
   ·rename_i hcond
    split at h
    ·rename_i cs hcs
     split at h
     ·rename_i l hl
      have hz0:RL β Z w ((au<|len*m).map λi=>LV.v<|z.cells[i%z.cells.size]!) ((Array.range<|len*m).map λi=>z.cells[i%z.cells.size]!).toList:=by
       exact xR
      have hok0:AS n ((au<|len*m).map λi=>LV.v<|z.cells[i%z.cells.size]!):=by
       exact aLw
      obtain ⟨zs',f1,f2,f3⟩:=ba (β:=β) (Z:=Z) (w:=w) (n:=n) pl pv.toList _ cs _ hcs hp hr hk hz0 hok0;obtain ⟨k1,k2⟩:=tm ty len cs l _ hl f2;refine ⟨e,zs',λw'=>?_,λβ' Z' w' b hZ hw hc hzb=>?_,by rw [<-h];trivial⟩
      ·exact xa
      ·rw [<-h]
       refine ⟨_,len,by rw [k1],A0,λ_=>⟨b,0,rfl,hzb,λi d hd=>?_⟩⟩
       exact k2 Z' w' b 0 hZ hw hc i d hd
     ·cases h
    ·cases h
   ·cases h
  ·cases h
 ·cases h
def aE8 {place:Nat->Option (Nat×Nat)}:∀ {pl:List<|Nat×LV}{cells cs:List LV},KV place cells pl=ah cs->M cs=M cells
 | [],cells,cs,h=>by
  simp only [KV,Ah] at h;rw [h]
 | (i,x)::rest,cells,cs,h=>by
  simp only [KV] at h;split at h
  ·split at h
   ·rename_i off size c _ _ hcond
    rw [aE8 h];simp only [setAt,BF,MC,F7];omega
   ·cases h
  ·cases h
theorem anK {t e:TypeId}{ty:Ty}{l:List ty.D}{len:Nat}{pl:List<|Nat×LV}{pv:Array<|Nat×Value}{n:Nat}(hu:P.underlying t=ah (.slice e)) (h:(Li P t len pl).all λz=>z=.xl ty l) (hp:pv.toList.map (·.1)=pl.map (·.1)) (hr:RL β Z w (pl.map (·.2))<|pv.toList.map (·.2)) (hk:AS n<|pl.map (·.2)):
  ∃cells:Array Value,(∀w',(Instr.buildSlice t len pv).run P w'=.ok (.slice (ah ⟨w'.heap.size,0,aj⟩) len len) (w'.alloc<|.cells cells e))/\M l=len/\cells.size=len*ty.n/\
   (∀(w':World) (b:Nat),(∀b,Z b->w'.heap[b]? =w.heap[b]?)->(∀(j:Nat) v,cells.toList[j]? =ah v->w'.cell? ⟨b,0+j,aj⟩=ah v)->∀(i:Nat) (d:ty.D),l[i]? =ah d->RD Z w' ty d b (0+i*ty.n)):=by
 unfold Li at h;rw [hu] at h;simp only at h;split at h
 ·rename_i ty0 m z hty hsz hz
  split at h
  ·rename_i hcond
   split at h
   ·rename_i cs hcs
    split at h
    ·rename_i l0 hl
     simp only [T.all,LV.xl.injEq] at h;obtain ⟨rfl,h⟩:=h;obtain rfl:=eq_of_heq h
     have hz0:RL β Z w ((au<|len*m).map λi=>LV.v<|z.cells[i%z.cells.size]!) ((Array.range<|len*m).map λi=>z.cells[i%z.cells.size]!).toList:=by
      exact xR
     have hok0:AS n ((au<|len*m).map λi=>LV.v<|z.cells[i%z.cells.size]!):=by
      exact aLw
     obtain ⟨zs',f1,f2,f3⟩:=ba (β:=β) (Z:=Z) (w:=w) (n:=n) pl pv.toList _ cs _ hcs hp hr hk hz0 hok0;obtain ⟨k1,k2⟩:=tm ty0 len cs l0 _ hl f2
     have hcl:=aE8 hcs
     have hsz2:zs'.size=len*m:=by
      have:=RL.length f2
      grind
     refine ⟨zs',λw'=>?_,k1,A8,λw' b hw hc i d hd=>k2 Z w' b 0 (λ_ h=>h) hw hc i d hd⟩
     exact xa
    ·cases h
   ·cases h
  ·cases h
 ·cases h
def af6 {t:TypeId}{len:Nat}{vs:List<|Nat×LV}{pv:Array<|Nat×Value}{lv:LV}{H':List AB}(hW:RW G w0 Z0 Z β H w) (h:(aP P H t len vs).all λq=>q=(lv,H')) (hp:pv.toList.map (·.1)=vs.map (·.1))
  (hargs:RL β Z w (vs.map (·.2))<|pv.toList.map (·.2)) (hoka:AS (M H)<|vs.map (·.2)):
  ∃w' v Z' β',(Instr.buildSlice t len pv).run P w=.ok v w'/\Below w.heap.size w w'/\(∀b,Z b->Z' b)/\(∀k,k<M H->β' k=β k)/\RW G w0 Z0 Z' β' H' w'/\R β' Z' w' lv v/\okV (M H') lv/\M H'=M H+1/\(β'<|M H).b=w.heap.size:=by
 unfold aP at h;split at h
 ·rename_i hcl
  obtain ⟨y,h1,h2⟩:=T.B4 h;obtain ⟨_,hg,h1⟩:=T.B4 h1;split at h2
  ·rename_i e ty l hu _
   obtain ⟨rfl,rfl⟩:=h2
   have hG:=T.BY (K':=λ_=>True) (λ_ _=>trivial) hg
   obtain ⟨c1,c2⟩:=Sp hcl
   have hP:=hW.pub<|reach H 64 (ownsL<|vs.map (·.2)) []
   have hH:=λk b hb=>(hW.blk k b hb).2
   have hr0:RL β (ZP Z β H λk=>k∈reach H 64 (ownsL<|vs.map (·.2)) []) w ((vs.map (·.2)).map<|Bx H 6) (pv.toList.map (·.2)):=
    TC (S:=λk=>k∈reach H 64 (ownsL<|vs.map (·.2)) []) hargs hoka c1 (λx y hm hs hx hr=>Ma hW c2 6 x y (Oi hG x hm) hs hx hr)
   have hok0:AS 0 ((vs.map (·.2)).map<|Bx H 6):=by
    exact aLL
   have emap:(vs.map λq=>(q.1,Bx H 6 q.2)).map (·.2)=(vs.map (·.2)).map (Bx H 6):=AI
   obtain ⟨cells,e1,e2,e3,e4⟩:=anK (β:=β) (Z:=ZP Z β H λk=>k∈reach H 64 (ownsL<|vs.map (·.2)) []) (w:=w) (n:=0) (pv:=pv) hu h1 G1 (by rw [emap];exact hr0) (by rw [emap];exact hok0)
   have hbw:Below w.heap.size w (w.alloc<|.cells cells e):=(Below.refl _ _).alloc (Ar _) _
   have hblk:(w.alloc<|.cells cells e).heap[w.heap.size]? =ah (.cells cells e (0,0)):=by
    exact Zg
   obtain ⟨β',b1,b2,b3⟩:=(hP.same hbw).KO (ℓ:=⟨w.heap.size,0,ah len⟩) (nb:=⟨[],e,.vec ty l,X⟩) rfl ⟨ak,ak⟩
    (λ_=>⟨λhz=>by have:=hP.Bb _ hz;simp only at this;omega,hW.below.size,λj bj hj lj e=>by have:=hP.lt hj lj;simp only at e;omega⟩) (λβ' g1 g2=>by
     simp only [BZ,g2];refine ⟨cells,hblk,A0,A0,λj d' hd'=>?_⟩
     exact e4 _ w.heap.size (λb hz=>Dx hbw<|hP.Bb b hz) (λj v hv=>by
      simpa using hv) j d' hd')
   simp only [K5] at b1 b2 b3;exact ⟨_,_,_,β',e1 w,hbw,λ_ h=> .inl h,b1,b3,aMv,by simp [okV,K5],by simp [K5],VW⟩
  ·cases h2
 ·cases h
theorem af8 {t:TypeId}{len:Nat}{pl:List<|Nat×LV}{pv:Array<|Nat×Value}{lv:LV}{H':List AB}(hW:RW G w0 Z0 Z β H w) (h:(mA P H t len pl).all λq=>q=(lv,H')) (hp:pv.toList.map (·.1)=pl.map (·.1)) (hr:RL β Z w (pl.map (·.2))<|pv.toList.map (·.2)) (hk:AS (M H)<|pl.map (·.2)):
  ∃w' v,(Instr.buildSlice t len pv).run P w=.ok v w'/\Below w.heap.size w w'/\∃β',(∀k,k<M H->β' k=β k)/\RW G w0 Z0 Z β' H' w'/\R β' Z w' lv v/\okV (M H') lv/\M H'=M H+1/\(β'<|M H).b=w.heap.size:=by
 unfold mA at h;split at h
 ·rename_i e hu
  split at h
  ·rename_i m z hsz hz
   split at h
   ·rename_i hc
    split at h
    ·rename_i cs hcs
     obtain ⟨rfl,rfl⟩:=h
     have hz0:RL β Z w ((au<|len*m).map λi=>LV.v<|z.cells[i%z.cells.size]!) ((Array.range<|len*m).map λi=>z.cells[i%z.cells.size]!).toList:=by
      exact xR
     have hok0:AS (M H) ((au<|len*m).map λi=>LV.v<|z.cells[i%z.cells.size]!):=by
      have:=TZ (M H)<|(au<|len*m).map λi=>z.cells[i%z.cells.size]!
      simpa [Gy,ZB] using this
     obtain ⟨zs',f1,f2,f3⟩:=ba (β:=β) (Z:=Z) (w:=w) (n:=M H) pl pv.toList _ cs _ hcs hp hr hk hz0 hok0;obtain ⟨β',b1,b2,b3,b4⟩:=hW.alloc (t:=e) f2 f3
     have hbw:Below w.heap.size w (w.alloc<|.cells zs' e):=(Below.refl _ _).alloc (Ar _) _
     refine ⟨w.alloc<|.cells zs' e,.slice (ah ⟨w.heap.size,0,aj⟩) len len,?_,hbw,β',b1,b3,?_,MG,AI,b2⟩
     ·exact xa
     ·simp only [R,b2]
      grind
    ·cases h
   ·cases h
  ·cases h
 ·cases h
theorem T8 {o:Oper}{g:FuncId}{l:List LV}{lv:LV}{H':List AB}(h:(LM P Γ H o g l).all λq=>q=(lv,H')):∃fn S,P.funcs[g]? =ah fn/\¬fn.body=aj/\¬fn.name= "runtime.NumGoroutine"/\Γ g=ah S/\
  (if noOwnL l then (S l).bind λy=>(T.ok (y,H):T<|LV×List AB)
      else if LC P 8 o.type then ((G5 (ED H 6) l).bind λ_=>QS<|S<|l.map<|Bx H 6).bind λy=> .ok (y,H)
      else if KE H (reach H 64 (ownsL l) []) l then ((G5 (ED H 6) l).bind λ_=>S<|l.map<|Bx H 6).bind λy=> .ok (y,FZ (reach H 64 (ownsL l) []) 0 H) else .no).all (λq=>q=(lv,H')):=by
 unfold LM at h;split at h
 ·rename_i fn hfn
  split at h
  ·rename_i hb
   split at h
   ·rename_i S hS
    grind
   ·cases h
  ·cases h
 ·cases h
def aDn {o:Oper}{lv:LV}(hΓ:∀g S,Γ g=ah S->Valid P G g S) (hW:RW G w0 Z0 Z β H w) (hF:RF ds β Z w (M H) F a) {g:FuncId}{vals:Array Value}(hrun:(execOp a.eval o).run P w=.ok (.enter g vals) w)
  {H':List AB} {l:List LV} (hargs:RL β Z w l vals.toList) (hoka:AS (M H) l) (h:(LM P Γ H o g l).all λq=>q=(lv,H')):
  DU P (Post ds G w0 Z0 F a β H w o lv H') ((execOp a.eval o).run P w):=by
 obtain ⟨fn,S,_,_,_,hS,h⟩:=T8 h;rw [hrun]
 have hval:=hΓ g S hS
 have hH:=λk b hb=>(hW.blk k b hb).2
 split at h
 ·rename_i hno
  obtain ⟨y,h1,h2⟩:=T.B4 h;simp only [T.all,Ax] at h2;obtain ⟨rfl,rfl⟩:=h2
  have hok0:=noOwnL_ok _ hno hoka
  have hr0:RL β0 Z w l (vals).toList:=RL.mono (n:=0) (λ_ hk=>absurd hk A0) (λ_ h=>h) (λ_ _=>rfl) _ _ hok0 hargs
  refine (hval _ _ w Z y hW.Bb hW.CW hok0 hr0 h1).mono λe w' ⟨hbw,v,he,hk,hr⟩=>⟨v,he,?_⟩
  refine ⟨_,β,hW.call hbw,hF.mono (Ar _) (λ_ _=>rfl) (λ_ h=> .inl h) λb hz=>Dx hbw<|hW.Bb b hz,?_,okV.mono (N9 _) _ hk,Ar _,λ_ _=>rfl,λk h1 h2=>A0,NH hbw⟩
  exact aM7
 ·have hok0:=aBw hoka (λx hx=>QF H hH 6 x hx)
  split at h
  ·obtain ⟨y,h1,h2⟩:=T.B4 h
   simp only [T.all,Ax] at h2;obtain ⟨rfl,rfl⟩:=h2;obtain ⟨_,hg,h1⟩:=T.B4 h1
   have hG:=T.BY (K':=λ_=>True) (λ_ _=>trivial) hg
   obtain ⟨h1,h2⟩:=aD5 h1
   have hr0:RL β0 (ZP Z β H λ_=>True) w (l.map<|Bx H 6) (vals).toList:=
    RL.mono (n:=0) (λ_ hk=>absurd hk A0) (λ_ h=>h) (λ_ _=>rfl) _ _ hok0 (TC (S:=λ_=>True) hargs hoka (λ_ _=>trivial) λx y hm hs hx hr=>Ma hW (λ_ _ _ _ _ _=>trivial) 6 x y (Oi hG x hm) hs hx hr)
   have hzo:∀b,ZP Z β H (λ_=>True) b->b<w.heap.size:=λb hz=>by
    exact aMA
   refine (hval _ _ w _ y hzo (hW.CW.mono (λ_ h=> .inl h) λ_ _=>rfl) hok0 hr0 h1).mono λe w' ⟨hbw,v,he,hk,hr⟩=>⟨v,he,?_⟩
   refine ⟨Z,β,hW.same hbw,hF.mono (Ar _) (λ_ _=>rfl) (λ_ h=>h) λb hz=>Dx hbw<|hW.Bb b hz,?_,okV.mono (N9 _) _ hk,Ar _,λ_ _=>rfl,λk h1 h2=>A0,NH hbw⟩
   obtain ⟨x,hx⟩:=ZH.1 h2;rw [Cb hx hr];exact aKL hx
  ·split at h
   ·rename_i hcl
    obtain ⟨y,h1,h2⟩:=T.B4 h;simp only [T.all,Ax] at h2;obtain ⟨rfl,rfl⟩:=h2;obtain ⟨_,hg,h1⟩:=T.B4 h1
    have hG:=T.BY (K':=λ_=>True) (λ_ _=>trivial) hg
    obtain ⟨c1,c2⟩:=Sp hcl
    have hP:=hW.pub<|reach H 64 (ownsL l) []
    have hr0:RL β0 (ZP Z β H λk=>k∈reach H 64 (ownsL l) []) w (l.map<|Bx H 6) (vals).toList:=
     RL.mono (n:=0) (λ_ hk=>absurd hk A0) (λ_ h=>h) (λ_ _=>rfl) _ _ hok0 (TC (S:=λk=>k∈reach H 64 (ownsL l) []) hargs hoka c1 λx y hm hs hx hr=>Ma hW c2 6 x y (Oi hG x hm) hs hx hr)
    refine (hval _ _ w _ y hP.Bb hP.CW hok0 hr0 h1).mono λe w' ⟨hbw,v,he,hk,hr⟩=>⟨v,he,?_⟩
    refine ⟨_,β,hP.call hbw,?_,?_,okV.mono (N9 _) _ hk,by rw [K5];exact Ar _,λ_ _=>rfl,λk h1 h2=>by rw [K5] at h2;omega,NH hbw⟩
    ·exact aLx
    ·exact aM7
   ·cases h
def aCK {f:Operand}{args:Array Operand}{ty:Array TypeId}{o:Oper}(ho:o.op=.call {callee:=.value f,args,argTypes:=ty}) {g:FuncId}{ys:Array Value}(hy:a.eval f=.func (.func g) #[] ys) {fn:Func}(hfn:P.funcs[g]? =ah fn) (hb:¬fn.body=aj) (hb3:¬fn.name= "runtime.NumGoroutine") (w:World):
  (execOp a.eval o).run P w=.ok (.enter g<|args.map a.eval++ys) w:=by
 unfold execOp;simp only [ho]
 simp [resolve,Deferred.ofValue,hy,invoke,callFunc,hfn,hb3,hb]
def aCr {f:Operand}{args:Array Operand}{ty:Array TypeId}{o:Oper}(ho:o.op=.call {callee:=.value f,args,argTypes:=ty}) {g:FuncId}{ys:Array Value}(hy:a.eval f=.func (.func g) ys #[]) {fn:Func}(hfn:P.funcs[g]? =ah fn) (hb:¬fn.body=aj) (hb3:¬fn.name= "runtime.NumGoroutine") (w:World):
  (execOp a.eval o).run P w=.ok (.enter g<|ys++args.map a.eval) w:=by
 unfold execOp;simp only [ho]
 simp [resolve,Deferred.ofValue,hy,invoke,callFunc,hfn,hb3,hb]
def qQ (G:B1) (F:List LV) (f:Operand) (args:Array Operand) (g:FuncId) (l:List LV):Prop:=
 (∃cap,AL G F f=.fn g cap/\l=args.toList.map (λx=>norm<|AL G F x)++cap)\/(∃fs,AL G F f=.fb g fs/\l=fs++args.toList.map (λx=>norm<|AL G F x))\/(AL G F f=.v (.func (.func g) #[] #[])/\l=args.toList.map (λx=>norm<|AL G F x))
end Go.Sx
end
