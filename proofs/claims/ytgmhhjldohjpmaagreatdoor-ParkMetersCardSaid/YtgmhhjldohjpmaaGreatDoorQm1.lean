/- Helpers for ParkMeters. Conditions: none. -/
import Derived.Test.YtgmhhjldohjpmaaGreatDoorRows
import Derived.WalkKit
import Derived.WalkSpells
import Derived.WalkLawsBesides
import Derived.Deep.QuietTactic
import Derived.BigQuiet
import Derived.Deep.RegionHeld3
import Derived.Deep.DrawnRows
import Derived.Deep.DeepCutAuto
import Derived.RangeFuncLeaves
import Derived.RangeFuncRecord
import Derived.OrdersIn
import Derived.LoopNIn
import Derived.Deep.Upon
import Derived.Laws.MakeOwn
import Derived.LoopN
import Derived.Test.YtgmhhjldohjpmaaGreatDoorProg
import Derived.Stop.Asserts
import Derived.Lib.IfaceEq
import Derived.RowKitTokens
import Derived.OpenShut
import Derived.ChangeShapes
import Derived.WideShapes
import Derived.Carry
import Derived.ChangeOld
import Derived.FnData
import Derived.Test.YtgmhhjldohjpmaaGreatDoorCards
import Derived.Test.YtgmhhjldohjpmaaGreatDoorTie
import Derived.ProofKit
import Derived.Deep.DeepHandedRow
import Derived.Lib.LaidTab
set_option linter.defProp false
set_option linter.unusedVariables false
set_option linter.unusedSimpArgs false
noncomputable section
namespace Go
abbrev AY:=@decide_eq_true_eq
abbrev AU:=@Bool.and_eq_true
abbrev CR:=@List.length_replicate
abbrev Ad:=@Option.some.injEq
abbrev AE:=@if_pos
abbrev AD:=@if_neg
abbrev B0:=@List.length_append
abbrev Bq:=@beq_eq_false_iff_ne
abbrev Cl:=@decide_eq_false_iff_not
abbrev BQ:=@Int.toNat_of_nonneg
abbrev Aq:=@Prod.mk.injEq
abbrev Br:=@List.length_set
abbrev BX:=@List.length_cons
abbrev BL:=@List.all_eq_true
abbrev Bh:=@List.length_nil
abbrev At:=@Nat.le_refl
abbrev B1:=@List.mem_cons
abbrev Bs:=@Int.toNat_natCast
abbrev Cx:=@List.getD_eq_getElem?_getD
abbrev DF:=@List.getElem?_eq_getElem
abbrev Eu:=@Bool.or_eq_false_iff
abbrev Bv:=@List.not_mem_nil
abbrev Cr:=@Bool.or_eq_true
abbrev CZ:=@List.append_assoc
abbrev Bp:=@List.mem_append
abbrev D3:=@List.take_of_length_le
abbrev De:=@of_decide_eq_true
abbrev CT:=@Go.run_underlying
abbrev Du:=@List.getElem?_eq_some_iff
abbrev EJ:=@List.drop_eq_nil_of_le
abbrev DS:=@List.getElem?_map
abbrev DE:=@List.length_drop
abbrev CJ:=@List.drop_zero
abbrev Fu:=@List.getElem?_append_right
abbrev Cj:=@beq_iff_eq
abbrev D4:=@Bool.not_eq_true'
abbrev Ax:=@congrArg
abbrev HM:=@Int.tdiv_eq_ediv_of_nonneg
abbrev HN:=@List.getElem?_append_left
abbrev HO:=@Array.getElem?_eq_some_iff
abbrev Di:=@List.nil_append
abbrev Cs:=@decide_eq_true
abbrev Ct:=@Bool.false_or
abbrev Dv:=@List.take_length
abbrev Ew:=@List.getElem?_drop
abbrev Dw:=@Option.some.inj
abbrev FJ:=@List.append_nil
abbrev FK:=@List.getElem_mem
abbrev G9:=@List.length_take
abbrev DT:=@bne_iff_ne
abbrev HP:=@Bool.false_eq_true
abbrev Fv:=@List.length_map
abbrev Dj:=@Bool.true_and
abbrev I5:=@List.cons_append
abbrev aK1:=@Int.tmod_eq_emod_of_nonneg
abbrev Bw:=@or_false
abbrev E8:=@List.map_cons
abbrev Eg:=@List.mem_map
abbrev IS:=@List.mem_iff_getElem
abbrev EK:=@Nat.zero_add
abbrev Hy:=@Bool.not_eq_false'
abbrev HI:=@List.getElem?_set
abbrev Hz:=@Bool.eq_false_iff
abbrev Bm:=@if_true
abbrev JF:=@of_decide_eq_false
abbrev JG:=@List.map_congr_left
abbrev I0:=@Bool.eq_iff_iff
abbrev Lw:=@List.length_eq_zero_iff
abbrev Lx:=@Go.World.putObj_heap_other
abbrev Kp:=@List.mem_singleton
abbrev HJ:=@List.mem_filter
abbrev HK:=@List.cons.injEq
abbrev I1:=@decide_eq_false
abbrev j7:=@Array.toArray_toList
abbrev PT:=@Int.mul_le_mul_of_nonneg_left
abbrev Gk:=@List.map_map
abbrev HL:=@Nat.add_assoc
abbrev JH:=@Option.map_some
abbrev Kq:=@List.getElem?_take
abbrev I2:=@List.map_append
abbrev S5:=@Int.mul_le_mul_of_nonneg_right
abbrev ZG:=@Function.comp_def
abbrev I3:=@List.mem_range
abbrev I4:=@Int.mul_nonneg
abbrev PU:=@Int.fdiv_eq_ediv_of_nonneg
abbrev G8:=@Nat.le_trans
abbrev PR:=@Array.getElem?_eq_getElem
abbrev PS:=@Int.not_le
abbrev Mq:=@Array.toList_map
abbrev Lv:=@ge_iff_le
abbrev Mr:=@Nat.mul_le_mul_right
abbrev Ft:=@Nat.add_mul
abbrev Ms:=@List.length_pos_iff
abbrev Jp:=@List.foldl_cons
abbrev Kn:=@List.filter_cons
abbrev PX:=@Int.eq_ofNat_of_zero_le
abbrev IT:=@List.all_cons
abbrev E9:=@true_and
abbrev Gl:=@Int.le_refl
abbrev Eh:=@Go.mem_ready
abbrev SC:=@List.mem_or_eq_of_mem_set
abbrev SD:=@List.drop_eq_getElem_cons
abbrev PY:=@List.mem_of_mem_erase
abbrev ZQ:=@List.take_succ_eq_append_getElem
abbrev PZ:=@List.mem_of_getElem?
abbrev Pa:=@List.mem_of_mem_drop
abbrev Ly:=@List.nodup_cons
abbrev O7:=@Option.bind_some
abbrev FL:=@if_false
abbrev V6:=@List.getLastD_eq_getLast?
abbrev V7:=@not_true_eq_false
abbrev Pb:=@List.mem_replicate
abbrev SE:=@List.mem_cons_of_mem
abbrev O8:=@beq_self_eq_true
abbrev O9:=@List.any_eq_true
abbrev V8:=@List.getElem?_replicate
abbrev Ks:=@List.map_nil
abbrev SF:=@Bool.or_eq_true_iff
abbrev OA:=@List.range_succ
abbrev jJ:=@List.replicate_append_replicate
abbrev ZR:=@Option.isNone_iff_eq_none
abbrev ZI:=@List.getElem?_toArray
abbrev Uy:=@List.set_append_right
abbrev S8:=@List.mem_filterMap
abbrev ZJ:=@Option.isSome_iff_exists
abbrev Kr:=@Nat.zero_le
abbrev Uz:=@List.getElem?_set_ne
abbrev O5:=@Bool.false_and
abbrev V0:=@List.erase_cons_tail
abbrev V1:=@List.mem_of_mem_take
abbrev ZK:=@Nat.add_sub_cancel_left
abbrev S9:=@List.length_range
abbrev V2:=@List.replicate_succ
abbrev jF:=@Array.getD_eq_getD_getElem?
abbrev O6:=@Int.sub_zero
abbrev V3:=@Int.ediv_le_self
abbrev V4:=@List.filter_append
abbrev V5:=@Int.natCast_nonneg
abbrev ZL:=@List.contains_iff_mem
abbrev ZM:=@List.getElem?_eq_none
abbrev ZN:=@List.take_append_drop
abbrev ZO:=@List.length_filter_le
abbrev wG:=@Bool.and_eq_false_iff
abbrev jG:=@List.isEmpty_eq_false_iff
abbrev jH:=@List.pairwise_iff_getElem
abbrev jI:=@Decidable.byContradiction
abbrev SB:=@Int.ediv_nonneg
abbrev j8:=@Go.Result.andThen_ok
abbrev wE:=@List.eq_nil_iff_forall_not_mem
abbrev j9:=@List.getElem?_cons_succ
abbrev S6:=@Bool.and_assoc
abbrev S7:=@Bool.and_false
abbrev wF:=@List.drop_append_of_le_length
abbrev PV:=@Nat.lt_or_ge
abbrev ZH:=@Nat.lt_of_lt_of_le
abbrev PW:=@Int.le_trans
abbrev jE:=@List.getElem_cons_drop
abbrev jV:=@List.drop_of_length_le
abbrev ZW:=@Bool.not_eq_false
abbrev wW:=@Array.getElem?_append_left
abbrev jW:=@List.replicate_succ'
abbrev ZX:=@List.isEmpty_iff
abbrev am7:=@Array.mem_append
abbrev ZY:=@Nat.lt_succ_self
abbrev SG:=@Bool.or_true
abbrev wX:=@Array.mapM_eq_mapM_toList
abbrev wY:=@List.getLast?_eq_getElem?
abbrev jY:=@Array.getElem?_push
abbrev jZ:=@Array.toList_append
abbrev aK4:=@List.getElem?_take_of_lt
abbrev ZZ:=@Go.Oper.apart_spec
abbrev ja:=@List.pairwise_cons
abbrev jb:=@List.length_modify
abbrev jc:=@List.getElem_range
abbrev wZ:=@Classical.axiomOfChoice
abbrev SH:=@Nat.one_mul
abbrev SI:=@List.map_id
abbrev VA:=@Go.callsIn_wide
abbrev VB:=@Nat.ne_of_lt
abbrev wb:=@Array.getElem?_eq_none
abbrev jd:=@Go.Sem.run_bind
abbrev wc:=@List.Perm.append_right
abbrev je:=@List.flatMap_cons
abbrev wI:=@List.singleton_append
abbrev wJ:=@Go.run_typeAssert_lacksB
abbrev wK:=@Int.mul_tdiv_add_tmod
abbrev jR:=@Option.getD_some
abbrev jS:=@List.ext_getElem
abbrev jT:=@List.nodup_range
abbrev ZT:=@List.any_cons
abbrev OB:=@and_true
abbrev wL:=@List.reverse_reverse
abbrev aK2:=@List.take_append_of_le_length
abbrev jU:=@List.foldr_cons
abbrev aK3:=@List.replicate_eq_append_iff
abbrev wM:=@Array.length_toList
abbrev wN:=@List.getElem?_range
abbrev wO:=@Nat.add_comm
abbrev ZU:=@Nat.add_zero
abbrev wP:=@Go.Sem.run_pure
abbrev V9:=@Nat.not_lt
abbrev wQ:=@BitVec.toNat_ofInt
abbrev OC:=@Ne.symm
abbrev ZV:=@Go.getD_set_ne
abbrev wR:=@Go.run_storeCells_at
abbrev wS:=@List.nodup_append
abbrev wT:=@List.filter_congr
abbrev wU:=@List.Pairwise.map
abbrev wV:=@List.reverse_perm
abbrev ZS:=@Int.one_mul
abbrev jK:=@Bool.and_true
abbrev am6:=@List.mem_toArray
abbrev wH:=@List.getElem_map
abbrev jL:=@Nat.le_of_eq
abbrev jM:=@Nat.zero_mul
abbrev jO:=@Go.execOp_congr
abbrev jP:=@List.any_nil
abbrev jQ:=@Nat.sub_self
abbrev wq:=@Array.size_push
abbrev wu:=@List.take_left'
abbrev wv:=@List.drop_left'
abbrev SO:=@eq_comm
variable {p:Prop}
def Zg(h:p:=by
 have c1:s.i<s.n:=AO
 rw [AI (x:=s.i+1)];exact ⟨⟨AP,AP,h2,h3,hg,(by first|exact l1|(simp only [Br];exact l1)),l2,(by first|exact l3|(simp only [Br];exact l3)),(by first|exact l4|(simp only [Br];exact l4)),(by first|exact l5|(simp only [Br];exact l5))⟩,by simp only [aw];omega⟩):=h
def Zh(h:p:=by
 intro s hI;refine ⟨λc1=>⟨?_,?_,?_,trivial⟩,λc1=>⟨A8,trivial⟩⟩
 all_goals ((obtain ⟨h0,h1,h2,h3,h4⟩:=hI;(try simp only [AY] at c1);first|omega|(refine ⟨A0,?_,?_⟩<;>simp only [BX,Bh]<;>omega) |(simp only [B0,BX,Bh];omega) |exact ⟨rfl,AJ⟩ |exact ⟨rfl,rfl⟩))):=h
def aKH(h:p:=by
 have c1:s.k<s.m:=AO
 have c2:=Q4 hI c2
 have hp:s.levels.getD (gi s.l s.k).toNat 0=s.level-1/\s.level<=FE s.Aw (gi s.l s.k) (gi s.most (gi s.l s.k)):=by
  refine ⟨c2,?_⟩
  have h6:=hI.2.2.1
  simp only [Cl] at c3;rw [<-h6] at c3;unfold FE;omega
 have hE:=WC hI c1 c2
 rcases bK _ hE with ⟨q1,q2⟩ |⟨q1,q2,q3⟩
 ·rw [q1] at c4
  cases c4
 ·rw [q2] at c5
  cases c5):=h
def aKI(h:p:=by
 have c1:s.i<s.n:=AO
 have hi:((s.i.toNat:Nat):Int)=s.i:=BQ h0
 obtain ⟨q,b1,b2⟩:=hq s.i.toNat A0;rw [hi] at b1 b2;unfold Hj at q;rw [hi] at q
 have w1:A9 ((Ac s.r.me s.i).2.1-(Ac s.p.me s.i).2.1)=(Ac s.r.me s.i).2.1-(Ac s.p.me s.i).2.1:=AI
 have ct:¬s.p.tk=s.r.tk:=Bq.1 c2
 split at q
 ·rename_i e;exact absurd e ct
 obtain ⟨q1,q2,q3,q4,q5,q6⟩:=q
 have w2:A9 ((BC s.r.mi s.i).2.2-(BC s.p.mi s.i).2.2)=(Ac s.r.me s.i).2.1-(Ac s.p.me s.i).2.1:=SU
 have w3:A9 (2300*gi s.dw s.i)=2300*gi s.dw s.i:=AI
 have w4:A9 (6900*gi s.dw s.i)=6900*gi s.dw s.i:=AI
 have w5:((Ac s.r.me s.i).2.1-(Ac s.p.me s.i).2.1).tmod 2300=0:=SW
 exfalso;simp only [w1,w2,w3,w4,w5,DT,ne_eq,AY,V7] at c6<;>first|omega|(simp only [Cj] at*;omega) |exact c6 (q3 (eq_of_beq c5))):=h
def aKJ(h:p:=by
 have c1:s.i<s.n:=AO
 have hi:((s.i.toNat:Nat):Int)=s.i:=BQ h0
 obtain ⟨q,b1,b2⟩:=hq s.i.toNat A0;rw [hi] at b1 b2;unfold Hj at q;rw [hi] at q
 have w1:A9 ((Ac s.r.me s.i).2.1-(Ac s.p.me s.i).2.1)=(Ac s.r.me s.i).2.1-(Ac s.p.me s.i).2.1:=AI
 have ct:¬s.p.tk=s.r.tk:=Bq.1 c2
 split at q
 ·rename_i e;exact absurd e ct
 obtain ⟨q1,q2,q3,q4,q5,q6⟩:=q
 have w2:A9 ((BC s.r.mi s.i).2.2-(BC s.p.mi s.i).2.2)=(Ac s.r.me s.i).2.1-(Ac s.p.me s.i).2.1:=SU
 have w3:A9 (2300*gi s.dw s.i)=2300*gi s.dw s.i:=AI
 have w4:A9 (6900*gi s.dw s.i)=6900*gi s.dw s.i:=AI
 have w5:((Ac s.r.me s.i).2.1-(Ac s.p.me s.i).2.1).tmod 2300=0:=SW
 exfalso;simp only [w1,w2,w3,w4,w5,DT,ne_eq,AY,V7] at c7<;>first|omega|(simp only [Cj] at*;omega) |exact c7 (q3 (eq_of_beq c6))):=h
def aKK(h:p:=by
 have c1:s.i<s.n:=AO
 have hi:((s.i.toNat:Nat):Int)=s.i:=BQ h0
 obtain ⟨q,b1,b2⟩:=hq s.i.toNat A0;rw [hi] at b1 b2;unfold Hj at q;rw [hi] at q
 have w1:A9 ((Ac s.r.me s.i).2.1-(Ac s.p.me s.i).2.1)=(Ac s.r.me s.i).2.1-(Ac s.p.me s.i).2.1:=AI
 have ct:¬s.p.tk=s.r.tk:=Bq.1 c2
 split at q
 ·rename_i e;exact absurd e ct
 obtain ⟨q1,q2,q3,q4,q5,q6⟩:=q
 have w2:A9 ((BC s.r.mi s.i).2.2-(BC s.p.mi s.i).2.2)=(Ac s.r.me s.i).2.1-(Ac s.p.me s.i).2.1:=SU
 have w3:A9 (2300*gi s.dw s.i)=2300*gi s.dw s.i:=AI
 have w4:A9 (6900*gi s.dw s.i)=6900*gi s.dw s.i:=AI
 have w5:((Ac s.r.me s.i).2.1-(Ac s.p.me s.i).2.1).tmod 2300=0:=SW
 exfalso;simp only [w1,w2,w3,w4,w5,DT,ne_eq,AY,V7] at c8<;>first|omega|(simp only [Cj] at*;omega) |exact c8 (q3 (eq_of_beq c7))):=h
def Kt(h:p:=by
 rintro s ⟨h0,h1,h2,h3⟩
 exact ⟨A0,A0,h2,h3,λj hj=>A0⟩):=h
def aKL(h:p:=by
 refine ⟨rfl,?_⟩;refine adN (by rw [Jt];exact h4) λj j0 j1=>?_
 rw [Jt] at j1;rw [SZ j0 j1,h5 j j0 A0,AE (show j<s.i by omega)]):=h
def aKM(h:p:=by
 have c1:s.i<s.n:=AO
 have hi:((s.i.toNat:Nat):Int)=s.i:=BQ h0
 obtain ⟨q,b1,b2⟩:=hq s.i.toNat A0;rw [hi] at b1 b2;unfold Hj at q;rw [hi] at q
 have w1:A9 ((Ac s.r.me s.i).2.1-(Ac s.p.me s.i).2.1)=(Ac s.r.me s.i).2.1-(Ac s.p.me s.i).2.1:=AI
 have ct:¬s.p.tk=s.r.tk:=Bq.1 c2
 split at q
 ·rename_i e;exact absurd e ct
 obtain ⟨q1,q2,q3,q4,q5,q6⟩:=q
 have w2:A9 ((BC s.r.mi s.i).2.2-(BC s.p.mi s.i).2.2)=(Ac s.r.me s.i).2.1-(Ac s.p.me s.i).2.1:=SU
 have w3:A9 (2300*gi s.dw s.i)=2300*gi s.dw s.i:=AI
 have w4:A9 (6900*gi s.dw s.i)=6900*gi s.dw s.i:=AI
 have w5:((Ac s.r.me s.i).2.1-(Ac s.p.me s.i).2.1).tmod 2300=0:=SW
 rw [AI (x:=s.i+1)];exact ⟨⟨AP,AP,h2,h3,h4⟩,by simp only [cZ];omega⟩):=h
def wy(h:p:=by
 refine ⟨hW.mask d1 d2 d3,λb hb=>?_⟩
 rcases hb with hb|⟨k,bk,hk1,hk2,hk3,rfl⟩
 ·exact d1.block b (hW.BV b hb) (hW.mS hb)
 ·have hkt:k∉tr:=by simpa using hk3
  rw [aB0] at hk1;cases hH:H2[k]? with
  |none=>simp [hH] at hk1
  |some b0=>
   simp only [hH,JH,Ad,EK] at hk1;rw [AD (by simpa using hkt)] at hk1
   subst hk1;exact d1.block _ (hW.lt hH hk2) (hW.adS hH hk2 hkt)):=h
def Mv(h:p:=by
 by_cases hji:(j:Int)<s.i
 ·exact h4 j hji
 ·have:(j:Int)=s.i:=AA
  rw [this];exact hg):=h
def SP(h:p:=by
 intro s hI;refine ⟨λc1=>⟨?_,λ_=>trivial,λ_=>trivial⟩,λ_=>trivial⟩
 ·(obtain ⟨h0,h1,h2,h3,h4⟩:=hI;simp at c1;omega)):=h
def jm(h:p:=by
 have hG':(Fz (EA H d) l).all (λ_=>True):=aNP
 clear hG
 simp only [Bz,R,okV,owns] at*;obtain ⟨ys,h1,h2⟩:=h;exact ⟨ys,h1,Sv h2 hk hS (λx y hm hx hk' hr=>MH hW clo d x y (ON hG' _ hm) hx hk' hr)⟩):=h
def Pc(h:p:=by
 have c:=DT.1 c
 show KZ _=_
 rw [(m9 (by rw [s1];exact c)).1,(m9 (by rw [s1];exact c)).2,s1]
 rfl):=h
def jn(h:p:=by
 simp only [Cj,Bq,ne_eq,Cr,Eu,AY,Cl,Lv,PS] at*;refine fin _ _ ?_ ?_<;>(clear fin w0 w3a w3b w4a w4b;omega)):=h
def aKN(h:p:=by
 have hrun:(execOp a.eval o).run P w=.ok .skip w':=Jq
 rw [hrun,<-h2];refine ⟨Z,β,e2,?_,?_,trivial,A0,λ_ _=>rfl,λk k1 k2=>A0,by simp only [OV,EX,ho];exact e6⟩
 ·rw [e3];exact hF.mono (At _) (λ_ _=>rfl) (λ_ h=>h) e4
 ·simp only [R]):=h
def Zi(h:p:=by exact .inl ⟨rfl,λj hj=>h4 j A0⟩):=h
def wz(h:p:=by
 intro s hI;refine ⟨λc1=>⟨?_,?_,?_,?_,trivial⟩,λc1=>⟨A8,trivial⟩⟩
 all_goals ((obtain ⟨⟨h0,h1⟩,h2,h3,h4,h5,h6⟩:=hI;(try simp only [AY] at c1);first|omega|exact ⟨rfl,AJ⟩ |(omega)))):=h
def VE(h:p:=by
 rintro s ⟨h0,h2,h3,h4,h5,h6⟩
 exact ⟨A0,h2,h3,h4,λj j0 j1=>AA,h6⟩):=h
def x6(h:p:=by
 have e1:=λw=>run_sizeOf hsz w
 have e2:=λw=>mG hz w
 have n1:¬(len*m>2^24):=A0
 have n2:¬(len*m=0):=A0
 simp only [Instr.buildSlice,jd,CT hu,j8,e1,AD n1,AD n2,e2,wP,f1,newRow];rfl):=h
def aKO(h:p:=by
 have hrun:(execOp a.eval o).run P w=.ok (.value (.map (some w.heap.size))) (w.alloc (.map #[] 0)):=by simp [execOp,ho,Instr.makeMap]
 rw [hrun,<-h1,<-h2];refine ⟨Z,β',b3,hF.mono AJ b1 (λ_ h=>h) (λb hz=>Dx b4 (hW.BV b hz)),?_,?_,AJ,b1,λk k1 k2=>?_,N2 b4⟩
 ·simp only [R,b2]
 ·simp [okV]
 ·have:k=H.length:=by simp at k2;omega
  rw [this,b2];exact .inl (At _)):=h
def jo(h:p:=by
 simp only [Cj,Bq,ne_eq,Cr,Eu,AY,Cl,Lv,PS] at*;refine fin _ _ ?_ ?_<;>(clear fin w1a w1b w1c w3a w3b w4a w4b;omega)):=h
def aK9(h:p:=by
 simp only [Cj,Bq,ne_eq,Cr,Eu,AY,Cl,Lv,PS] at*;refine fin _ _ ?_ ?_<;>(clear fin w0 w1a w1b w1c w4a w4b;omega)):=h
def aKA(h:p:=by
 simp only [Cj,Bq,ne_eq,Cr,Eu,AY,Cl,Lv,PS] at*;refine fin _ _ ?_ ?_<;>(clear fin w0 w1a w1b w1c w3a w3b;omega)):=h
def Mu(h:p:=by obtain ⟨h1,h2⟩:=same h;exact gen h1 h2):=h
def VD(h:p:=by
 simp only [renV,R] at*;rw [(h.at (ho k IU)).1];exact hr):=h
def SK(h:p:=by exact ⟨False,.junk,Fy,λH K=>by simp [T.all]⟩):=h
def wh(h:p:=by
 have c1:s.t11<3:=AO
 rw [AI (x:=s.t11+1)];exact ⟨⟨ht,⟨AP,AP⟩,h1,h2⟩,by simp only [p7];omega⟩):=h
def Za(h:p:=by
 split at h
 ·simp only [T.all,Aq] at h
  rw [<-h.2];exact EvL.app _ _
 ·cases h):=h
def SL(h:p:=by
 simp [BR,B4,CW,hv,EW.ev,h]
 exact λh0 h1=>absurd h0 h1):=h
def jg(h:p:=by
 simp only [renV,R,owns,okV] at*;obtain ⟨ys,h1,h2⟩:=hr;exact ⟨ys,h1,ren_RL h l _ ho hok h2⟩):=h
def Zb(h:p:=by exact val h2 (v:=z) Jq e2 e3):=h
def Zc(h:p:=by
 rintro s ⟨h0,h1,h2,h3⟩
 exact ⟨A0,A0,h1,h2,A0⟩):=h
def jh(h:p:=by
 simp only [R,okV] at*;obtain ⟨ys,h1,h2⟩:=h;exact ⟨ys,h1,RL.mono hβ hZ hw l _ hk h2⟩):=h
def wj(h:p:=by
 by_cases e:j=s.i
 ·subst e
  rw [AE rfl,AE (show s.i<s.i+1 by omega)]
  rfl
 ·rw [AD e,h5 j j0 j1]
  by_cases q:j<s.i
  ·omega
  ·omega):=h
def aKB(h:p:=by
 split at h
 ·simp only [owns,Kp] at hk
  split at h
  ·rename_i hb
   split at h
   ·grind
   ·cases h
  ·cases h
 ·simp [owns] at hk
 ·simp only [owns,Kp] at hk
  subst hk;split at h
  ·rename_i hb;exact ⟨⟨_,hb,hr.1⟩,.inr ⟨_,_,_,rfl⟩⟩
  ·cases h
 ·cases h):=h
def aKC(h:p:=by
 unfold TL
 (rw [AI,h5] at c2;unfold koV;revert c2;generalize inB (Ny s.l s.i).2.1 _ _=a;generalize inB (Ny s.l s.i).2.2.1 _ _=b;generalize inB (Ny s.l s.i).2.2.2 _ _=c;generalize List.contains (α:=Int) _ _=d;cases a<;>cases b<;>cases c<;>cases d<;>simp)):=h
def wo(h:p:=by
 split at h
 ·split at h
  ·rename_i hg
   rw [AE hg];rw [T.all_bind] at h|-;exact T.BT (λq hq=>hh _ _ hq) h
  ·cases h
 ·cases h):=h
def Zd(h:p:=by
 rename_i ho;rcases h with h|h
 ·simp [ER,ho] at h
 ·simp [IC,ho] at h):=h
def Ze(h:p:=by
 rename_i ho;rcases h with h|h
 ·simp [Md,ho] at h
 ·simp [IC,ho] at h):=h
def jj(h:p:=by
 refine ⟨c2,?_⟩
 have h6:=hI.2.2.1
 simp only [Cl] at c3;rw [<-h6] at c3;unfold FE;omega):=h
def aKD(h:p:=by
 have hh':w'.heap[r]? =some (.map es clock):=aNN
 have hget:(getObj r).run P w'=.ok (.map es clock) w':=k7
 have hz0:=λw=>mG hz w
 simp [Instr.lookup,CT hu,hy,hget,mA hku,Instr.findKey,CT hku,hzq,q1,hz0]):=h
def jk(h:p:=by
 simp only [R,owns,okV] at*;obtain ⟨ys,h1,h2⟩:=h;exact ⟨ys,h1,RL.KP l _ hj hk h2⟩):=h
def aKE(h:p:=by
 rw [hrun,<-h1,<-h2];refine ⟨Z,β',b3,hF.mono AJ b1 (λ_ h=>h) b4,?_,?_,AJ,b1,λk k1 k2=>?_,N2 ((Below.refl _ _).alloc (At _) _)⟩
 ·simp only [R,b2]
 ·simp [okV]
 ·have:k=H.length:=by simp at k2;omega
  rw [this,b2];exact .inl (At _)):=h
def aKF(h:p:=by
 have:=e1 w' (λb hb=>(hD w' hw').2 b (by
  rcases hb with hb|⟨k,e4,e5⟩
  ·exact .inl hb
  ·obtain ⟨bk,l1,l2⟩:=hlv k e4
   refine .inr ⟨k,bk,l1,l2,?_,e5⟩;unfold qU at hap;simp only [ho,e4] at hap
   simpa using hap))
 simp [execOp,ho,this]):=h
def jl(h:p:=by rw [FM (hl x Ey)]):=h
def Zf(h:p:=by
 rintro s ⟨h0,h1,h2,h3⟩
 exact ⟨A0,A0,h1,h2,h3⟩):=h
def aKG(h:p:=by
 rw [show (s.i+1).toNat=s.i.toNat+1 by omega,GU,<-h5]
 have e1:s.o.getD s.i.toNat (Ty.dflt Ao)=Ag s.o (s.i.toNat:Int):=by
  rw [Cx,DF A0];rw [show Ag s.o (s.i.toNat:Int)=s.o[s.i.toNat]' A0 from cM A0];rfl
 rw [e1];rfl):=h
def Mt(h:p:=by rename_i ho;simp [isSp,ho] at hsp):=h
def SJ(h:p:=by
 have c1:s.n<=s.i:=AO
 exact Zi):=h
def we(h:p:=by
 have:=ae9 (P:=P) (G:=G) (Γ:=λ_=>none) (F:=F) (y:=y) h
 unfold pux at this;unfold hpx;simp only [ho] at this|-;exact this):=h
def aK5(h:p:=by
 obtain ⟨_,⟨h2,h3,h4,h5⟩,_⟩:=hI
 have c2:((s.levels.getD (gi s.l s.k).toNat 0) !=(A9 (s.level-1)))=true:=c2
 rw [AI (x:=s.level-1)] at c2
 have c2:¬s.levels.getD (gi s.l s.k).toNat 0=s.level-1:=D8
 exact c2 h.1):=h
def wg(h:p:=by
 have:=UZ (β:=β) (Z:=Z) (w:=w) ((List.range (len*m)).map (λi=>z.cells[i%z.cells.size]!))
 simpa [Gk,ZG] using this):=h
def jf(h:p:=by
 simp only [R] at*;obtain ⟨ys,h1,h2⟩:=hh;exact ⟨ys,h1,RL.shut h o' l _ h2⟩):=h
def aK6(h:p:=by
 simp only [R];refine ⟨_,rfl,?_⟩;simp only [Mq];refine RL.CO AJ λi x hx=>?_
 rw [DS] at hx|-;cases hq:first.toList[i]? with
 |none=>simp [hq] at hx
 |some q=>simp [hq] at hx;subst hx;exact ⟨a.eval q,AJ,(ev q).1⟩):=h
def aK7(h:p:=by
 have hh':w'.heap[r]? =some (.map es clock):=aNN
 have hget:(getObj r).run P w'=.ok (.map es clock) w':=k7
 simp [Instr.lookup,CT hu,hy,hget,mA hku,Instr.findKey,CT hku,hzq,q1]):=h
def VC(h:p:=by
 have c1:s.n<=s.i:=AA
 exact ⟨rfl,A0⟩):=h
def aK8(h:p:=by
 simp only [R];refine ⟨_,rfl,?_⟩;simp only [Mq];refine RL.CO AJ λi x hx=>?_
 rw [DS] at hx|-;cases hq:cap.toList[i]? with
 |none=>simp [hq] at hx
 |some q=>simp [hq] at hx;subst hx;exact ⟨a.eval q,AJ,(ev q).1⟩):=h
def aKl(h:p:=by
 rw [AE (show FF (BS s.p.ca s.i) (BC s.p.mi s.i) (AH s.p.gs s.i).2.2.1 (Bi (AH s.p.gs s.i) (BP s.p.st s.i))>Bi (AH s.p.gs s.i) (BP s.p.st s.i) from De c5)];rw [show Ce s.p.gs s.p.st s.i 6 2 0=_ from AE (eq_of_beq c6)];rfl):=h
def aKm(h:p:=by
 rw [AE (show FF (BS s.p.ca s.i) (BC s.p.mi s.i) (AH s.p.gs s.i).2.2.1 (Bi (AH s.p.gs s.i) (BP s.p.st s.i))>Bi (AH s.p.gs s.i) (BP s.p.st s.i) from De c5)];rw [show Ce s.p.gs s.p.st s.i 6 2 0=_ from AD (Bq.1 c6)];rfl):=h
def OD(h:p:=by exact JL us F H Z β F1 H1 hW hF h):=h
def xD(h:p:=by
 simp only [Bk] at hx;cases j with
 |zero=>simp at hx;subst hx;exact ⟨_,h,JK⟩
 |succ j=>simp at hx):=h
def aKn(h:p:=by
 rename_i f l hl;simp only [T.all,Aq] at h;rw [hl] at hx
 have hx1:=hx.1
 simp only [R] at hx1;obtain ⟨ys,e1,_⟩:=hx1;refine val h.2.symm (v:=a.eval x) Jq ?_ ?_<;>rw [<-h.1]
 ·exact hx.1
 ·exact hx.2):=h
def aKo(h:p:=by
 rename_i f l hl;simp only [T.all,Aq] at h;rw [hl] at hx
 have hx1:=hx.1
 simp only [R] at hx1;obtain ⟨ys,e1,_⟩:=hx1;refine val (v:=a.eval x) (λw' _=>Jq) ?_ ?_<;>rw [<-h.1]
 ·exact hx.1
 ·exact hx.2):=h
def aKp(h:p:=by
 obtain ⟨a,cap,h1,h2,h3⟩:=h;refine ⟨a,cap,by rw [<-h1];exact hb 0 Zs,h2,λhn=>?_⟩
 obtain ⟨b',o',h4,h5,h6⟩:=h3 hn;exact ⟨b',o',h4,hZ _ h5,λi d hd=>RD.mono hZ hw e d b' _ h5 (h6 i d hd)⟩):=h
def xE(h:p:=by
 obtain ⟨_,⟨cs,f2,f3⟩,_⟩:=pJ hW hb hcl;refine ⟨cs,f2,?_⟩
 have:=RL.length f3
 simpa using this):=h
def aKq(h:p:=by
 rename_i t m i x ho;obtain ⟨H1,h1,h2⟩:=T.Ay h;simp only [T.all,Aq] at h2;obtain ⟨h2,h3⟩:=h2;subst h3;obtain ⟨w',e1,e2,e3,e4,e6⟩:=aeD hW h1 (ev m).1 (ev i).1 (ev x).1 (ev x).2;exact aKN):=h
def xF(h:p:=by
 show Ln _ _ _=Ln _ _ _
 rw [I0];unfold Ln;simp only [Cj,Bq,ne_eq] at*;simp only [AU,Cr,AY];omega):=h
def aKr(h:p:=by
 rw [hrun];refine ⟨Z,β',e4,hF.mono A0 e3 (λ_ h=>h) (λb hz=>Dx e2 (hW.BV b hz)),e5,e6,A0,e3,λk k1 k2=>?_,N2 e2⟩
 have:k=H.length:=A0
 rw [this,e8];exact .inl (At _)):=h
def aKs(h:p:=by
 refine RL.CO AJ λi x hx=>?_
 rw [Mq,DS];cases hq:args.toList[i]? with
 |none=>simp [hq] at hx
 |some q=>simp [hq] at hx;subst hx;exact ⟨a.eval q,AJ,OY (hF.eval hW.CV q).1⟩):=h
def aKt(h:p:=by
 simp only [T.all,Aq] at h;rw [hl] at hx
 have hx1:=hx.1
 simp only [R] at hx1;refine val h.2.symm (v:=a.eval x) (by simp [execOp,ho,hx1]) ?_ ?_<;>rw [<-h.1]
 ·exact hx.1
 ·exact hx.2):=h
def aKu(h:p:=by
 simp only [T.all,Aq] at h;rw [hl] at hx
 have hx1:=hx.1
 simp only [R] at hx1;refine val (v:=a.eval x) (λw' _=>by simp [execOp,ho,hx1]) ?_ ?_<;>rw [<-h.1]
 ·exact hx.1
 ·exact hx.2):=h
def xG(h:p:=by
 rw [hg] at hq;simp only [HP,FL] at hq;rw [hq];exact .inr ⟨rfl,rfl,rfl,rfl,rfl,rfl,rfl⟩):=h
def aKv(h:p:=by
 intro s hI;refine ⟨λc1=>⟨?_,λc2=>⟨A8,trivial⟩,λc2=>⟨A8,trivial⟩⟩,λc1=>⟨A8,trivial⟩⟩
 ·(obtain ⟨h0,h1,h2,h3⟩:=hI;simp only [AY] at c1;omega)):=h
def aKw(h:p:=by
 refine AR.CO λi x hx=>?_
 rw [DS] at hx;cases hq:(vs.map (·.2))[i]? with
 |none=>simp [hq] at hx
 |some q=>simp [hq] at hx;subst hx;exact Pt H hH 6 _ (AR.get i q hoka hq)):=h
def aKx(h:p:=by
 have:(j:Int)=s.i:=kS
 rw [this];exact hg):=h
def aKy(h:p:=by
 rw [K7 h0 A0 j0,afm h0 A0 j0]
 by_cases e:j=s.i
 ·subst e
  rw [AE rfl,AE rfl,hx',hy'];exact ⟨rfl,rfl⟩
 ·rw [AD e,AD e]
  exact hA j j0 A0):=h
def aKz(h:p:=by
 rw [AD (show ¬FF (BS s.p.ca s.i) (BC s.p.mi s.i) (AH s.p.gs s.i).2.2.1 (Bi (AH s.p.gs s.i) (BP s.p.st s.i))>Bi (AH s.p.gs s.i) (BP s.p.st s.i) from JF c5)];rfl):=h
def jw(h:p:=by
 rintro s ⟨h0,h1,h2⟩
 exact ⟨A0,A0,h1,h2⟩):=h
def aL0(h:p:=by
 have c1:s.i<s.k:=AO
 refine .inr ⟨rfl,rfl,s.i.toNat,AP,?_⟩
 have hg:WQ s s.i=false:=aMo
 exact hg):=h
def aL1(h:p:=by (have hx:=QC s hI AO;obtain ⟨w1,w2⟩:=dn hI (Q4 hI c2);have hh:=I6.1 (hI.2.2.2.1.has _ hx.1);have hb:=hI.2.1;(first|rw [w2] |rw [w1]);omega)):=h
def Zk(h:p:=by
 rw [q3,hn,hl,EJ A0,hE.1] at hk
 grind):=h
def aL2(h:p:=by
 simp only [okV];refine AR.CO λi x hx=>?_
 rw [DS] at hx;cases hq:first.toList[i]? with
 |none=>simp [hq] at hx
 |some q=>simp [hq] at hx;subst hx;exact (ev q).2):=h
def aL3(h:p:=by
 refine ⟨hc.rw,?_,hc.near,hc.len,hc.old,hc.new,hc.Jg⟩;exact hF1'.mono (At _) (λ_ _=>rfl) (λ_ h=>h) (λb hz=>hc.near.block b (hW.BV b hz) (hW.mS hz))):=h
def aKW(h:p:=by
 simp only [okV];refine AR.CO λi x hx=>?_
 rw [DS] at hx;cases hq:cap.toList[i]? with
 |none=>simp [hq] at hx
 |some q=>simp [hq] at hx;subst hx;exact (ev q).2):=h
def aKX(h:p:=by
 split at h
 ·split at h
  ·split at h
   ·simp only at h
    split at h
    ·rename_i hb;exact ⟨_,hb,trivial⟩
    ·cases h
   ·cases h
  ·cases h
 ·cases h):=h
def jq(h:p:=by exact val (v:=z) (λw' _=>Jq) e2 e3):=h
def aKY(h:p:=by
 rename_i x ho;simp only [T.all,Aq] at h;refine val h.2.symm (v:=a.eval x) (by simp [execOp,ho]) ?_ ?_<;>rw [<-h.1]
 ·exact (ev x).1
 ·exact (ev x).2):=h
def aKZ(h:p:=by
 intro s hI;refine ⟨λc1=>⟨?_,λ_=>trivial,λ_=>trivial⟩,λ_=>trivial⟩
 ·(obtain ⟨⟨h0,h1⟩,h2,h3,h4⟩:=hI;simp only [AY] at c1;omega)):=h
def aKa(h:p:=by
 rename_i x ho;simp only [T.all,Aq] at h;refine val (v:=a.eval x) (λw' _=>by simp [execOp,ho]) ?_ ?_<;>rw [<-h.1]
 ·exact (ev x).1
 ·exact (ev x).2):=h
def x8(h:p:=by exact ⟨h1.imp id (λ⟨a,b,c⟩=>⟨A0,b,c⟩),λh=>h2 A0⟩):=h
def Zj(h:p:=by
 show (w.heap.push _)[w.heap.size]? =_
 simp):=h
def jr(h:p:=by
 rintro s ⟨h0,h2⟩
 exact ⟨A0,A0,h2⟩):=h
def aKb(h:p:=by
 intro s hI;refine ⟨λc1=>⟨?_,?_,λ_=>trivial,λ_=>trivial⟩,λ_=>trivial⟩
 all_goals ((obtain ⟨h0,h1,h2,h3,h4⟩:=hI;simp at c1;omega))):=h
def Dk(h:p:=by simp only [R]):=h
def aKc(h:p:=by
 refine AR.CO λi x hx=>?_
 cases hq:args.toList[i]? with
 |none=>simp [hq] at hx
 |some q=>simp [hq] at hx;subst hx;exact Sr (hF.eval hW.CV q).2):=h
def x9(h:p:=by
 simp only [Ty.n] at hj
 have:j=0:=A0
 subst this;exact ⟨_,h,rfl⟩):=h
def aKd(h:p:=by
 unfold QD;split
 ·rename_i op t x z _ ho
  simp only [e x Ey,e z Ey]
 ·rfl):=h
def aKe(h:p:=by
 unfold Ue
 (rw [h5] at c2;revert c2;generalize nameB _=a;generalize List.contains (α:=ByteArray) _ _=d;cases a<;>cases d<;>simp)):=h
def xA(h:p:=by
 unfold Ln;simp only [Cj,Bq,ne_eq] at*;simp only [wG,Eu,Cl];omega):=h
def aKf(h:p:=by
 refine .inr ⟨q1,q2,?_⟩;rw [Hz];intro hx
 have:=(Pz (d:=(0:Int))).2 hx j A0
 exact Bool.noConfusion (this.symm.trans q4)):=h
def aKg(h:p:=by rw [aeC (FM (hl q.2 aMU))]):=h
def aKh(h:p:=by
 rintro s ⟨ht,h0,h1,h2,h3⟩
 have hn:=h1.2.1
 exact ⟨ht,⟨A0,A0⟩,h1,by rw [h2,h0];rfl,by rw [h3,h0];rfl⟩):=h
def aKi(h:p:=by
 rw [e8.block k A0 λhm=>?_]
 ·exact hc.near.block k hk hn
 ·rcases hc.touch hst hm with h|h
  ·omega
  ·exact hn h):=h
def jt(h:p:=by (have hx:=QC s hI AO;omega)):=h
def ju(h:p:=by
 rintro s ⟨h0,h1⟩
 exact ⟨A0,h1⟩):=h
def xB(h:p:=by
 obtain ⟨y,zs,rfl,rfl,_⟩:=h;simp only [RD];exact hc 0 _ rfl):=h
def aKj(h:p:=by
 rename_i t m i x ho;unfold Ap at h;simp only [ho] at h;obtain ⟨H1,h1,h2⟩:=T.Ay h;obtain ⟨_,rfl⟩:=h2;exact afn h1):=h
def xC(h:p:=by
 rw [q1,q2,Q3 j q3 q4];exact ⟨λ_=>rfl,λc=>Gm⟩):=h
def aKk(h:p:=by
 have:CX (r::rs) (x-i)=CX rs (x-(i+1)):=by
  unfold CX;rw [show (x-i).toNat=(x-(i+1)).toNat+1 by omega]
  simp
 grind):=h
def aKP(h:p:=by
 split
 ·rename_i cs _
  exact ⟨True,.own k 0,⟨cs,t,.cl,false⟩,λH K=>aNd⟩
 ·exact SK):=h
def aKQ(h:p:=by
 go_enter func220,Tryz.ntmps220
 go_wp2
 refine wp_loop_rounds 1 ?_;rw [rounds_succ]
 go_wp2
 go_ret
 exact ⟨rfl,rfl⟩):=h
def x7(h:p:=by simp only [Ad] at hx;subst hx;simp only [R] at h1;rw [h1]):=h
def aKR(h:p:=by
 have c1:s.i<s.n:=AA
 rw [AI (x:=s.i+1)];exact ⟨⟨AA,AA,h2,h3⟩,by simp only [uT];omega⟩):=h
def aKS(h:p:=by
 simp only [Cj,Bq,ne_eq,Cr,Eu,AY,Cl,Lv,PS] at*
 (first|decide|(clear fin w0 w1a w1b w1c w4a w4b;omega))):=h
def aKT(h:p:=by
 split
 ·exact ⟨go _ (au h hdd _),pass _ (au h hdd _)⟩
 ·exact ⟨pass _ (au h hdd _),go _ (au h hdd _)⟩):=h
def aKU(h:p:=by
 rename_i x ho;unfold Ap at hs;simp only [ho,T.all,Aq] at hs;exact other _ hs.1.symm hs.2.symm (λj hj=>Sa hj)):=h
def aKV(h:p:=by
 split at hx
 ·obtain ⟨rfl,_,hx⟩:=hx;exact ⟨_,_,hx⟩
 ·obtain ⟨_,ad,hx,_⟩:=hx;exact ⟨_,_,hx⟩):=h
def SQ(h:p:=by exact ⟨rfl,A0⟩):=h
def VF(h:p:=by simp only [CZ,Di,FJ,I5]):=h
def aLV(h:p:=by
 split at hx
 ·rename_i hk;subst hk;simp only [Ad] at hx;subst hx;simp only [R] at h1;rw [h1]
 ·cases hx):=h
def aLW(h:p:=by exact aCG s _ hI AO aNi rfl rfl rfl rfl rfl rfl rfl rfl rfl rfl):=h
def aLX(h:p:=by exact aCF s _ hI AO aNi rfl rfl rfl rfl rfl rfl rfl rfl rfl rfl):=h
def aLY(h:p:=by
 split
 ·rename_i zs hz
  simp only [R]
  have:=aOO hz h
  rw [<-this]
 ·simp only [R];exact ⟨ys,rfl,aDV h⟩):=h
def aLZ(h:p:=by
 refine (afk _ A6).2.trans ?_;rw [h7]
 show Eo _ 0 _ ((s.p.AV.tg.length:Int)-0).toNat=_
 rw [O6,Bs,agY];rfl):=h
def aLa(h:p:=by
 refine AG (λc5=>?_) (λc5=>?_)
 ·refine AG (λc6=>?_) (λc6=>?_)
  ·exact Zg
  ·exact Zg
 ·exact Zg):=h
def Mw(h:p:=by exact gen (same h)):=h
def aLb(h:p:=by
 rename_i x ho;refine ⟨True,AL G F x,none,λH K=>?_⟩
 unfold Hk Ap;rw [h1,h2]
 simp [ho,T.all,putAt]):=h
def xP(h:p:=by
 rw [AD e,h5 j j0 j1]
 by_cases q:j<s.i
 ·omega
 ·omega):=h
def aLc(h:p:=by
 have:=TI n ((List.range (len*m)).map (λi=>z.cells[i%z.cells.size]!))
 simpa [Gk,ZG] using this):=h
def aLd(h:p:=by
 rw [Js];exact hF.mono (At _) (λ_ _=>rfl) (λ_ h=> .inl (.inl h)) (λb hz=>Dx hbw (hW.BV b hz))):=h
def xR(h:p:=by
 simp only [AU,Cj] at hcalm
 simpa using hcalm.1.1.2):=h
def aLe(h:p:=by
 unfold J5;split
 ·rename_i hc
  split
  ·rw [K7 h.1 h.2 hj]
   split
   ·grind
   ·omega
  ·omega
 ·omega):=h
def aLf(h:p:=by exact ⟨⟨AP,AP,h2,h3,h4,h5,h6⟩,by simp only [cY];omega⟩):=h
def aLg(h:p:=by
 simp only [Bz];exact R.mono (n:=H.length) (λ_ _=>rfl) (λ_ h=> .inl h) (λ_ _=>rfl) _ _ hk h):=h
def aLh(h:p:=by
 obtain ⟨_,_,h6,_⟩:=hI;simp only [AY] at c3;rw [<-h6] at c3
 have:=h.2
 unfold FE at this;omega):=h
def jy(h:p:=by
 have c1:s.k<=s.i:=AA
 exact aKL):=h
def OE(h:p:=by simpa using this):=h
def jz(h:p:=by
 unfold hpx;simp only [ho];exact jl):=h
def aLi(h:p:=by
 rw [HM A0,show (fl.length:Int) / 2=((fl.length / 2:Nat):Int) by omega]
 exact AI):=h
def aLj(h:p:=by
 have h1:(0:Int)<=(x:Int)/\(x:Int)<=(y:Int):=A0
 simp [Instr.sliceBound,asIntOf,h1]):=h
def SR(h:p:=by
 simp only [ho];rw [e]):=h
def aLk(h:p:=by
 rename_i x ho;unfold Ap;simp only [ho];rw [FM (hl x Ey)];rfl):=h
def aLl(h:p:=by exact R.mono (n:=0) (λ_ hk=>absurd hk A0) (λ_ h=>h) (λ_ _=>rfl) _ _ hk hr):=h
def aLm(h:p:=by
 subst h;exact EvL.set hb ⟨λhc=>yB,λ_ _ _=>trivial,λh=>h⟩):=h
def xS(h:p:=by
 have c1:s.k<=s.i:=AO
 exact aKL):=h
def xJ(h:p:=by
 have c1:s.m<=s.i:=AO
 exact Zi):=h
def aLC(h:p:=by
 have c1:s.n<=s.i:=AO
 exact .inl ⟨rfl,λj hj=>h6 j A0⟩):=h
def aLD(h:p:=by
 unfold Gc Dg;rw [show List.range (([80]:List Int).length+1)=[0,1] from rfl]
 simp):=h
def aLE(h:p:=by
 rcases hz with hz|⟨k,bk,_,h2,h3,rfl⟩
 ·exact hW.BV b hz
 ·exact hW.lt h2 h3):=h
def aLF(h:p:=by
 simp only [canX,R] at h|-;obtain ⟨ys,h1,h2⟩:=h;exact ⟨ys,h1,canL_R h2⟩):=h
def aLG(h:p:=by
 rw [hj.Uc,hj.cl]
 have:Lr 512 fl (Ar x)=false:=My
 rw [this];rfl):=h
def xK(h:p:=by
 rcases B1.1 hi with e|e
 ·grind
 ·exact e):=h
def xL(h:p:=by exact ⟨Z2,β2,c1,c2,by rw [c3];simp⟩):=h
def aLH(h:p:=by
 rw [Js];exact hF.mono (At _) (λ_ _=>rfl) (λ_ h=> .inl h) (λ_ _=>rfl)):=h
def aLI(h:p:=by rw [AE h1,AE h1];exact ⟨λy hy=>(by cases hy),λhh=>absurd hh h1⟩):=h
def aLJ(h:p:=by exact main _ es clock _ _ hr g1 g2 g3 hl b2.2 h (.inr ⟨k,rfl,rfl⟩)):=h
def aLK(h:p:=by
 simp only [R,Value.func.injEq,Fn.yield.injEq] at this;exact this.1.symm):=h
def aLL(h:p:=by
 split
 ·omega
 ·have:=nV (x:=a-mi) (st:=st) A0 A0
  omega):=h
def aLM(h:p:=by exact EvL.set hb ⟨λhc=>yB,λ_ _ h=>h,λh=>h⟩):=h
def aLN(h:p:=by
 unfold Ga chW at this;simp only [AU,CU] at this;exact I6.2 A0):=h
def xM(h:p:=by exact ⟨A0,A0,h2,h3,h4⟩):=h
def aLO(h:p:=by
 rw [AE q2,HN Cn,Fu Cn]
 congr 1
 simp
 omega):=h
def aLP(h:p:=by
 have:=I6.1 h
 have:=nV (x:=ma-mi) (st:=st) A0 A0
 omega):=h
def xN(h:p:=by
 intro _ _ _ _ _ _ _ _ _ h;exact h.elim):=h
def aLQ(h:p:=by
 obtain ⟨h1,h2⟩:=mW b fs (k+1) i h;refine ⟨A0,?_⟩
 grind):=h
def xO(h:p:=by rw [<-h];exact Vy (by simpa using f2)):=h
def jx(h:p:=by
 split at h
 ·grind
 ·cases h):=h
def aLR(h:p:=by
 split at h
 ·rename_i hkk
  simp only [R,okV] at hr hk
  grind
 ·cases h):=h
def aLS(h:p:=by
 rw [AE q1];simp only [ZI,CZ];rw [HN Cn,aK4 q1]
 simp):=h
def aLT(h:p:=by
 rintro s ⟨h0,h1,h2⟩
 exact ⟨A0,kX,h2⟩):=h
def aLU(h:p:=by
 obtain ⟨j,⟨h0,h1⟩,rfl⟩:=aCg ha
 have:=cb (h.ch h0 h1)
 omega):=h
def xH(h:p:=by
 have e1:=e1 w (λ_ _=>rfl)
 exact Zb):=h
def aL4(h:p:=by
 rw [hv] at s2;rw [adL hg hd s2,AD AJ];exact passOk F hF h):=h
def aL5(h:p:=by
 have:fs.toList[fpre.length]? =some f:=by rw [e1];simp
 exact OE):=h
def aL6(h:p:=by (obtain ⟨h0,h1,h2,h3,h4⟩:=hI;simp only [AY] at c1;omega)):=h
def aL7(h:p:=by
 rintro s ⟨h0,h2,h3,h4,h5⟩
 exact ⟨A0,h2,h3,h4,h5⟩):=h
def aL8(h:p:=by
 have:es=[]:=HR
 subst this;exact .inr ⟨rfl,h.symm⟩):=h
def aL9(h:p:=by exact ext q g n.toNat A0 hle A0 hr hk h.symm):=h
def aLA(h:p:=by
 obtain ⟨x,h1,h2⟩:=T.Ay h;simp only [T.all,Aq] at h2
 grind):=h
def aLB(h:p:=by
 have:=EB.1 h c.toNat A0
 rw [BQ h0] at this;exact OE):=h
def xI(h:p:=by rw [hl];simpa only [okV] using hk):=h
def aLw(h:p:=by exact val (v:=z) (λw' _=>aNc) f2 f3):=h
def xV(h:p:=by
 split at h
 ·cases h;rfl
 ·cases h):=h
def aLx(h:p:=by
 rintro s ⟨h0,h2,h3⟩
 exact ⟨A0,A0,h2,h3⟩):=h
def aLy(h:p:=by
 have:es=[]:=HR
 subst this;exact .inr ⟨rfl,rfl⟩):=h
def xW(h:p:=by rename_i hc;exact absurd hc hcap):=h
def aLz(h:p:=by
 have hG':=hG
 simp only [GX,EA,hb,T.all] at hG';exact hG'.1):=h
def aM0(h:p:=by
 simp only [T.all,Aq] at h;rw [<-h.2.2];exact EvL.app _ _):=h
def aM1(h:p:=by exact ⟨pW hI AO (Q4 hI c2),rfl,rfl⟩):=h
def aM2(h:p:=by
 unfold hpx;simp only [ho];rw [mP (λcs b e=>AA) h]):=h
def aM3(h:p:=by
 rintro s ⟨h0,h2,h3,h4⟩
 exact ⟨A0,h2,h3,h4⟩):=h
def aM4(h:p:=by
 unfold Region.wanted;simp only [yielded,hd,O7,hv]
 grind):=h
def aM5(h:p:=by rename_i x ho;rw [e x Ey]):=h
def aM6(h:p:=by rw [AD hs];exact ⟨λh=>h.elim,λh=>absurd h.1 hs⟩):=h
def aM7(h:p:=by exact val h2 (v:=z) aNc f2 f3):=h
def aM8(h:p:=by exact ⟨λy hy=>(by cases hy),λhh=>(by cases hh)⟩):=h
def aM9(h:p:=by
 refine AG (λc6=>?_) (λc6=>?_)
 ·exact aKH
 ·exact aKH):=h
def aMA(h:p:=by
 rw [Kq] at hv;split at hv
 ·exact hc j v hv
 ·cases hv):=h
def xX(h:p:=by exact .inr ⟨i',.inl h1,h2⟩):=h
def aMB(h:p:=by
 simp [IntKind.wrap,IntKind.bits,IntKind.signed]
 omega):=h
def aMC(h:p:=by
 rcases mem_set hm with hm|rfl
 ·exact h.mi m hm
 ·simp):=h
def aMD(h:p:=by
 refine ⟨λc7=>?_,λc7=>?_⟩
 ·exact jn
 ·exact jn):=h
def aME(h:p:=by
 refine ⟨λc7=>?_,λc7=>?_⟩
 ·exact aK9
 ·exact aK9):=h
def aMF(h:p:=by
 refine ⟨λc8=>?_,λc8=>?_⟩
 ·exact aKA
 ·exact aKA):=h
def aMG(h:p:=by exact T.BT (λz hz=>by simp only [T.all];rw [hz]) h):=h
def xY(h:p:=by
 obtain ⟨h1,h2⟩:=ae8 h
 grind):=h
def aMH(h:p:=by
 refine AG (λc6=>?_) (λc6=>?_)
 ·cases c5
 ·cases c5):=h
def aLp(h:p:=by
 rw [B0]
 show s.n+1-((s.Co.length+1:Nat):Int)=_
 omega):=h
def xU(h:p:=by
 rw [bad he Aa,he];rfl):=h
def aLq(h:p:=by
 by_cases hji:(j:Int)<s.i
 ·exact h6 j hji
 ·exact aKx):=h
def aLr(h:p:=by
 by_cases hji:(j:Int)<s.i
 ·exact h4 j hji
 ·exact aKx):=h
def A0(h:p:=by omega):=h
def Cm(h:p:=by first|omega|exact ⟨rfl,rfl⟩ |exact ⟨rfl,by simp⟩ |exact ⟨by simp,by simp⟩ |(rw [CR];omega)):=h
def AP(h:p:=by simp only;omega):=h
def AO(h:p:=by simpa using c1):=h
def AA(h:p:=by grind):=h
def AJ(h:p:=by simp):=h
def Fw(h:p:=by first|omega|exact ⟨rfl,rfl⟩ |exact ⟨rfl,by simp⟩ |(rw [CR];omega)):=h
def AZ(h:p:=by kernel_rfl):=h
def aLs(h:p:=by unfold TP;(obtain ⟨e0,e1,e2,e3,e4⟩:=h3;have hb:=e3 (gi s.l s.i).toNat;have c2:=c2;rw [AI (x:=s.sums.getD (gi s.l s.i).toNat (Ty.dflt A7)+s.more) (by show _<=s.sums.getD (gi s.l s.i).toNat 0+s.more;omega) (by show s.sums.getD (gi s.l s.i).toNat 0+s.more<=_;omega)] at c2;unfold KQ;first|(have c3:(!(decide (s.sums.getD (gi s.l s.i).toNat 0+s.more<=(CX s.BB (gi s.l s.i)).1)))=true:=c2;simpa using c3) |(have c3:(!(decide (s.sums.getD (gi s.l s.i).toNat 0+s.more<=(CX s.BB (gi s.l s.i)).1)))=false:=c2;simpa using c3))):=h
def Aa(h:p:=by decide):=h
def k6(h:p:=by first|omega|exact ⟨rfl,rfl⟩ |exact ⟨rfl,by rw [Bs];first|exact l1.symm|exact l2.symm|exact l3.symm⟩ |exact ⟨rfl,by simp⟩ |exact ⟨by simp,by simp⟩ |(rw [CR];omega)):=h
def Ah(h:p:=by cases h):=h
def Ey(h:p:=by rw [ho];simp [Op.operands]):=h
def aLt(h:p:=by unfold Nx;(simp only [show decide (s.i<1)=false from I1 (by omega),Ct];(simp only [chB,chA];revert c2;generalize Jf s.text s.i=b;intro c2;by_cases h1:b>=97<;>by_cases h2:b<=122<;>by_cases h3:b>=48<;>by_cases h4:b<=57<;>simp_all))):=h
def VH(h:p:=by simp [execOp,ho,resolve,invoke,builtin,Builtin.len_,ha,ht,CT hu,e1,goInt]):=h
def D8(h:p:=by simpa using c2):=h
def VJ(h:p:=by simp only [renV,okV];have:=(aB4 0 (ho k (by simp [owns]))).2.2;omega):=h
def aLu(h:p:=by unfold TJ;(first|(have c2:(!(inB (O3 s.l s.i).2 0 (A9 ((s.BH.length:Int)-1))))=false:=c2;simpa using c2) |(have c2:(!(inB (O3 s.l s.i).2 0 (A9 ((s.BH.length:Int)-1))))=true:=c2;simpa using c2))):=h
def Zo(h:p:=by rw [ho];simp only [Op.operands,Call.operands,am7];exact .inr (by grind)):=h
def aLv(h:p:=by unfold TK;(first|(have c2:(!(Ga s.B5.length s.BW.length (AH s.l s.i)))=false:=c2;simpa using c2) |(have c2:(!(Ga s.B5.length s.BW.length (AH s.l s.i)))=true:=c2;simpa using c2))):=h
def Cn(h:p:=by simp;omega):=h
def VL(h:p:=by simp only [RD] at*;rw [<-h];exact hb 0 (by simp [Ty.n])):=h
def IU(h:p:=by simp [owns]):=h
def Zl(h:p:=by simp only [Bz,okV] at*;exact aBB h (λx hx=>Pt H hH d x hx)):=h
def Zm(h:p:=by unfold FU;rw [hw D (hW.Ci D hD).1];exact (hW.Ci D hD).2):=h
def aLn(h:p:=by unfold TM;(first|(have c2:(!(Hl s.i (Ag s.l s.i)))=false:=c2;simpa using c2) |(have c2:(!(Hl s.i (Ag s.l s.i)))=true:=c2;simpa using c2))):=h
def FN(h:p:=by simpa using c):=h
def SS(h:p:=by have:=hW.lt hj lj;simp only at e;omega):=h
def aLo(h:p:=by unfold TO;(first|(have c2:(!(Hd (gi s.l s.i)))=false:=c2;simpa using c2) |(have c2:(!(Hd (gi s.l s.i)))=true:=c2;simpa using c2))):=h
def Zn(h:p:=by simp only [renV,okV,owns] at*;exact ren_okL l ho hk):=h
def VG(h:p:=by simp [Instr.findNow,Instr.sameNow,hk.1,hb]):=h
def Jq(h:p:=by simp [execOp,ho,e1]):=h
def kD(h:p:=by simp [execOp,ho,e1,e2,eqGuard,binOp,Op.shift,Int.not_lt.2 h0]):=h
def Zv(h:p:=by simp only [okV,noOwn] at*;exact noOwnL_ok l h hk):=h
def Zw(h:p:=by simp only [owns,okV] at*;exact okL_owns l hk j h):=h
def Zx(h:p:=by simp only [owns,okV] at*;exact okL_lower l hk h):=h
def OF(h:p:=by rw [w7] at c3;exact De c3):=h
def azz(h:p:=by rw [Bs];first|exact l1.symm|exact l2.symm|exact l3.symm):=h
def Pd(h:p:=by rw [<-j7 (xs:=args),hargs]):=h
def Pe(h:p:=by unfold PK.isC;simpa using c):=h
def Zy(h:p:=by simp only [R,okV] at*;rw [hβ k hk];exact h):=h
def aMS(h:p:=by show _<=s.sums.getD (gi s.l s.i).toNat 0+s.more;omega):=h
def aMT(h:p:=by show s.sums.getD (gi s.l s.i).toNat 0+s.more<=_;omega):=h
def kE(h:p:=by simp only [R] at*;rw [hj k (by simp [owns])];exact h):=h
def SV(h:p:=by simp only [aB2,aAz,aAy];exact h3):=h
def Zz(h:p:=by have:=hW.BV _ hz;simp only at this;omega):=h
def VR(h:p:=by simp [owns] at h;subst h;exact hk):=h
def kG(h:p:=by simp [execOp,ho,e1,e2,eqGuard,binOp,Op.intDiv,h0]):=h
def SW(h:p:=by rw [aK1 (by omega)];exact q4):=h
def aMU(h:p:=by rw [ho];simp only [Op.operands];first|exact Eg.2 ⟨q,hq,rfl⟩ |(simp;exact ⟨q.1,by grind⟩)):=h
def JK(h:p:=by simp only [R]):=h
def xd(h:p:=by rw [ho];simp only [Op.operands,am6,Eg];exact ⟨q,hq,rfl⟩):=h
def aA(h:p:=by unfold Gw;simp only [G9,DE];omega):=h
def aMV(h:p:=by simp only [R,b2];exact ⟨by omega,⟨w.heap.size,0,none⟩,by simp,λ_=>by simp⟩):=h
def kH(h:p:=by simp only [okV] at*;exact AR.mono h l hk):=h
def Pg(h:p:=by simp only [aB6];omega):=h
def M0(h:p:=by rw [he];decide):=h
def aMW(h:p:=by unfold TN;(obtain ⟨_,g1,g2⟩:=h3;rw [AI (x:=s.n-1)] at c2;simpa using c2)):=h
def VN(h:p:=by simp only [okV] at*;omega):=h
def Bt(h:p:=by rfl):=h
def Zp(h:p:=by simp only [B0,BX,Bh];omega):=h
def My(h:p:=by simpa using c3):=h
def Mz(h:p:=by rw [c2];decide):=h
def Zq(h:p:=by show p.gs.length<=1000;omega):=h
def VO(h:p:=by simpa only [R] using hh):=h
def HR(h:p:=by simp_all):=h
def k9(h:p:=by simp only [B0,Fv,BX,Bh];omega):=h
def Zr(h:p:=by rw [<-e1,<-e2];exact hc.rf):=h
def Gm(h:p:=by cases c):=h
def aMM(h:p:=by unfold Nw;cases e1:BG l<;>cases e2:inB t 0 1100000<;>simp_all):=h
def Zs(h:p:=by simp [Ty.n]):=h
def kA(h:p:=by unfold Ap;simp only [ho,hm,ht]):=h
def xb(h:p:=by show (s.p.AV.gs.length:Int)<=1000;omega):=h
def aMN(h:p:=by simp [execOp,ho,e1,e2,Instr.index,asIntOf,CT hu,h0,Jf,hg]):=h
def Zt(h:p:=by simp [Region.wanted,hg]):=h
def VQ(h:p:=by simp [World.setRow]):=h
def SU(h:p:=by rw [q2];exact AI):=h
def xc(h:p:=by simp only [RD] at*;rw [Pk hb];exact h):=h
def Lz(h:p:=by simp [okV]):=h
def aMO(h:p:=by show ((List.length (M7 (Kz d t)).out:Nat):Int)<20;omega):=h
def aMP(h:p:=by revert c;cases BG l<;>cases D7 (nu,co,am,fr,tk)<;>simp):=h
def aMQ(h:p:=by simp only [Hp,T.lv,Keeps];exact ⟨h.1,h.2,trivial⟩):=h
def aMR(h:p:=by unfold Ka;rw [wa];simp only [DZ];rw [BQ h0,<-hb];rfl):=h
def Zu(h:p:=by rw [<-e2];exact hc.rw):=h
def xZ(h:p:=by simp only [RD] at*;exact mD h o' hh):=h
def k7(h:p:=by simp [getObj,Sem.run,hh']):=h
def aMI(h:p:=by unfold leB;rw [wa];simp only [Ee];rw [BQ h0,<-hb]):=h
def Ku(h:p:=by cases hb):=h
def VM(h:p:=by simp [owns] at h):=h
def xa(h:p:=by show (gs.length:Int)<=1000;omega):=h
def aMJ(h:p:=by have:=hf 0;simp at this;simp [List.getD,<-this]):=h
def aMK(h:p:=by simp [IntKind.wrap,IntKind.bits,IntKind.signed]):=h
def k8(h:p:=by simp only [R];rw [hv,e]):=h
def aML(h:p:=by simp only [R] at*;rw [h,hj k (by simp [owns])]):=h
def kO(h:p:=by simpa only [DD] using h):=h
def kP(h:p:=by simpa only [G3] using h):=h
def aMr(h:p:=by unfold Ud;(simp only [inB];simp at c2|-;omega)):=h
def aMs(h:p:=by have:=hf (j+1);simpa [HL,wO 1 j] using this):=h
def aMt(h:p:=by have:=ho (j+1);simpa [HL,wO 1 j] using this):=h
def aMu(h:p:=by unfold AB.owns;rw [hbk];exact Bp.2 (.inr hj)):=h
def xi(h:p:=by rw [nW (by omega)];exact FK _):=h
def aMv(h:p:=by simp [Array.getD,show 0<1+vals.size by omega]):=h
def VU(h:p:=by simp at c;omega):=h
def aMw(h:p:=by unfold TQ;(simp only [AY,Cl] at c2|-;omega)):=h
def kQ(h:p:=by simp only [Ty.n];omega):=h
def kR(h:p:=by simpa [N9,ho] using ht):=h
def xj(h:p:=by simp only [Act.eval];exact hv):=h
def aMx(h:p:=by unfold Fb;rw [AE hp,AD (by rw [q3];simp)]):=h
def SX(h:p:=by simp [B6,hb]):=h
def VW(h:p:=by simpa using hk):=h
def kS(h:p:=by simp only at hj;omega):=h
def xk(h:p:=by show ((0:Nat):Int)<=0;decide):=h
def aMy(h:p:=by rw [HM (by omega)];exact V3 _ (by omega)):=h
def xm(h:p:=by simpa using BL.1 htr0 k hk):=h
def xn(h:p:=by rw [DS,DF (by omega)];rfl):=h
def aMz(h:p:=by rw [ho];simp [Op.operands,Call.operands]):=h
def aN0(h:p:=by simp only [H8];rw [AD (λhh=>by omega)]):=h
def aN1(h:p:=by unfold lpC;rw [Bs];exact mY (by omega)):=h
def aN2(h:p:=by unfold leC;rw [Bs];exact mY (by omega)):=h
def aN3(h:p:=by simp only [Bool.not_true,Ct,AY];omega):=h
def aMe(h:p:=by simp [execOp,ho,Instr.makeFunc,hfirst]):=h
def aMf(h:p:=by simp only [R] at hr|-;rw [Q0];exact hr):=h
def aMg(h:p:=by unfold Fb;rw [AE hp,AE q2,<-r1,<-w1]):=h
def aB(h:p:=by simp [Hc,h1,h2]):=h
def aMh(h:p:=by rw [cell_of_block hc];simpa using h1):=h
def aMi(h:p:=by simp [execOp,ho,e1,Instr.extract,e6]):=h
def aMj(h:p:=by simp [execOp,ho,Instr.makeFunc,hcap]):=h
def xg(h:p:=by simp [Region.wanted,hgd]):=h
def aMk(h:p:=by rw [aDW];exact λx hx=>h x (by grind)):=h
def VT(h:p:=by rw [<-e];rfl):=h
def kJ(h:p:=by have:=De c1;omega):=h
def kK(h:p:=by rw [h5];exact aB8 _):=h
def aMl(h:p:=by show (s.p.tg.length:Int)<=1000;omega):=h
def aMm(h:p:=by unfold IA at hz;simpa [hi] using hz):=h
def aC(h:p:=by simpa using he):=h
def aMn(h:p:=by have:=RL.length hr;simpa using this):=h
def aD(h:p:=by rw [c1];decide):=h
def xh(h:p:=by rw [<-hops];exact hcalm):=h
def kL(h:p:=by simp [noOwn] at h):=h
def aMo(h:p:=by unfold WQ;(unfold raC Cq;simp_all)):=h
def aMp(h:p:=by rcases hc with e|e<;>rw [e]<;>simp):=h
def aMq(h:p:=by simp [stepG,stepG.exec,Frame.atR]):=h
def aE(h:p:=by rw [h4];omega):=h
def aF(h:p:=by rw [GJ];omega):=h
def aG(h:p:=by rw [c];decide):=h
def kM(h:p:=by simp at c3;omega):=h
def aMX(h:p:=by show (cs.length:Int)<=1000;omega):=h
def aMY(h:p:=by unfold Ak;(repeat' split)<;>simp):=h
def aMZ(h:p:=by show (ds.length:Int)<=5000;omega):=h
def xe(h:p:=by unfold B4;rw [e1];rfl):=h
def aMa(h:p:=by show [(se,_)]=[(se,fl)];rw [z2]):=h
def aMb(h:p:=by simpa only [GX,EA,hb] using hG):=h
def VS(h:p:=by simp [ZG]):=h
def aMc(h:p:=by have:=okV_owns _ r3 k hk;omega):=h
def aMd(h:p:=by rw [Io (by omega)];exact FK _):=h
def xf(h:p:=by simp only [pA];omega):=h
def aNO(h:p:=by unfold ET;rw [B0,OR,CR];rfl):=h
def y8(h:p:=by simpa [Vi] using ht):=h
def y9(h:p:=by simp [List.getD,hj]):=h
def yA(h:p:=by rw [Jr];exact At _):=h
def kW(h:p:=by simpa using hl):=h
def kX(h:p:=by rw [h0,h1];rfl):=h
def kY(h:p:=by rw [DE];omega):=h
def aNP(h:p:=by simpa only [GX,EA] using hG):=h
def aNQ(h:p:=by simp [setObj,Sem.run,w',g1]):=h
def yB(h:p:=by simp [AB.Dl] at hc):=h
def VY(h:p:=by simp [ho]):=h
def aNR(h:p:=by rw [hls];exact (HO.1 ho).1):=h
def aNS(h:p:=by rw [BQ h0,Lp,SZ h0 hm,hx']):=h
def aNT(h:p:=by intro x hx;simp at hx;omega):=h
def yC(h:p:=by rw [he];assumption):=h
def aNU(h:p:=by rw [DT.2 h] at c1;cases c1):=h
def aNV(h:p:=by rw [hsz];exact hW.BV b' hz):=h
def aNW(h:p:=by simpa using (hW.gh p hp).2):=h
def aNX(h:p:=by simp [execOp,ho,e1,asBool]):=h
def aNY(h:p:=by simp only [R] at*;exact h3):=h
def yD(h:p:=by cases x<;>exact h):=h
def yE(h:p:=by simp only [BU,g2]):=h
def yF(h:p:=by rw [DE,hl];omega):=h
def aI(h:p:=by simp at hl):=h
def aNZ(h:p:=by simpa only [okV] using hk):=h
def aNa(h:p:=by simp only [DC,T.all] at h):=h
def aNA(h:p:=by simp only [Br];exact h10):=h
def SY(h:p:=by cases e):=h
def xu(h:p:=by simp only [Bz,R]):=h
def aNB(h:p:=by simp [getObj,Sem.run,g1]):=h
def xv(h:p:=by rw [h5];exact e1):=h
def aNC(h:p:=by rw [hl];simp [List.getD]):=h
def VX(h:p:=by cases hd):=h
def xw(h:p:=by simp at c4;omega):=h
def kU(h:p:=by rw [c2];simp):=h
def aND(h:p:=by simp only [Br];exact h6):=h
def aNE(h:p:=by rw [h2,B0,adQ,CR];omega):=h
def xx(h:p:=by rw [hL];exact aBY):=h
def aNF(h:p:=by simp only [Br];exact h9):=h
def xy(h:p:=by rw [Sj,Sj];omega):=h
def aNG(h:p:=by rw [hb];exact Sq _ _ _ _):=h
def aNH(h:p:=by rw [hB];exact Sq _ _ _ _):=h
def aNI(h:p:=by simp only [Br];exact h2):=h
def aNJ(h:p:=by simpa using (ho 0).symm):=h
def aNK(h:p:=by simpa only [RL] using h):=h
def aNL(h:p:=by have:=(q2 hm).2.1;omega):=h
def aNM(h:p:=by rw [AE hh] at he;omega):=h
def aNN(h:p:=by rw [hw' r hzr];exact hh):=h
def aH(h:p:=by simp [RL]):=h
def xz(h:p:=by simpa using hwt):=h
def y6(h:p:=by simp [c0,T.all]):=h
def y7(h:p:=by simp [c1,T.all]):=h
def xo(h:p:=by simp [c2,T.all]):=h
def xp(h:p:=by simp [c3,T.all]):=h
def xr(h:p:=by simp [c4,T.all]):=h
def xt(h:p:=by simp [c5,T.all]):=h
def aN4(h:p:=by rw [<-j7 (xs:=ty),ht]):=h
def aN5(h:p:=by simpa [OQ,ho] using hm):=h
def aN6(h:p:=by simpa [ownsL] using hj):=h
def aN7(h:p:=by rw [hg];simpa using c5):=h
def aN8(h:p:=by rw [hb];exact bY _ _ _):=h
def aN9(h:p:=by rw [hB];exact bY _ _ _):=h
def aNb(h:p:=by simp only;rw [h.1];rfl):=h
def aNc(h:p:=by simp [execOp,ho,e1,f1]):=h
def yI(h:p:=by simpa using hx):=h
def VZ(h:p:=by rw [b2]):=h
def yJ(h:p:=by simp [Nt] at h):=h
def aNd(h:p:=by simp only [T.all,E9]):=h
def yK(h:p:=by simpa using hb):=h
def yL(h:p:=by simpa using c4):=h
def aNe(h:p:=by simp [H9] at h1;omega):=h
def aNf(h:p:=by rw [Bs];exact nP rfl):=h
def aNg(h:p:=by unfold EP;rw [AE hE]):=h
def yM(h:p:=by rw [hE];decide):=h
def aNh(h:p:=by unfold CW;rw [e1];rfl):=h
def yN(h:p:=by simp [Bk,RL,R]):=h
def aNi(h:p:=by unfold Fb;rw [AD hn]):=h
def ka(h:p:=by rw [hl,h2]):=h
def yO(h:p:=by rw [Jr];omega):=h
def yP(h:p:=by simpa using e):=h
def yQ(h:p:=by decide+kernel):=h
def Va(h:p:=by rw [h]):=h
def kc(h:p:=by simp [w']):=h
def ke(h:p:=by simp [hb]):=h
def yR(h:p:=by rw [<-hrec]):=h
def yS(h:p:=by rw [oY,CR]):=h
def kf(h:p:=by simp [h]):=h
def kg(h:p:=by cases hi):=h
def kZ(h:p:=by cases hp):=h
def yG(h:p:=by simp at hk):=h
def yH(h:p:=by rw [h1,h2]):=h
end Go
namespace Go.Proofs.YtgmhhjldohjpmaaGreatDoor
abbrev _root_.Go.A9:Int→Int:=Go.IntKind.i64.wrap
theorem _root_.Go.A8 {α β:Sort _}{a:α}{b:β}:a=a∧b=b:=⟨rfl,rfl⟩
set_option maxRecDepth 100000
set_option maxHeartbeats 4000000
open Go.Proofs.Tryz
open Go.RowKit
structure More where
 g:Array Obj
 d:Nat
instance:Inhabited More:=⟨⟨#[],0⟩⟩
open Go Go.RowKit
section
variable {P : Program} {ops : Array Oper} {md : Region.Mode} {G : Type} {D : World -> Prop} {C : G -> World -> Prop} {sp : Nat -> Bool}
def nR (P:Program) (w:World) (v:Value):Result Next->Prop
 | .ok (.value u) w'=>w'=w/\u=v
 | .ok .skip w'=>w'=w/\v=undef
 | .ok (.enter f args) w'=>w'=w/\Calls P f args w (λe w''=>e=.returned v/\Below w.heap.size w w'')
 |_=>False
def NJ (P:Program) (o:Oper) (a:Act) (w:World) (v:Value):Prop:=nR P w v ((execOp a.eval o).run P w)
def calm (P:Program) (o:Oper) (a:Act) (D:World->Prop) (next:Act->Prop):Prop:=∃v,(∀w,D w->NJ P o a w v)/\next (a.put o.dst v)
def DV (P:Program) (R:Value->World->Prop):Result Next->Prop
 | .ok (.value v) w'=>R v w'
 | .ok .skip w'=>R undef w'
 | .ok (.enter f args) w'=>Calls P f args w' λe w''=>∃v,e=.returned v/\R v w''
 | .ok (.round l f tmps assign body) w'=>RoundIn Fence.wide 0 P l f tmps assign body w' λe w''=>∃v,e=.returned v/\R v w''
 |_=>False
abbrev DR (r:Option Nat):Fence:={Fence.wide with round:=r}
def semAt_eq {o:Oper}{r:Option Nat}{ρ:Operand->Value}(h:∀c,o.op≠ .defer c):o.semAt r ρ=execOp ρ o:=by
 unfold Oper.semAt;split
 ·rename_i c hc
  grind
 ·rfl
def aBO {o:Oper}{ρ:Operand->Value}{w:World}{c:Call}(h:o.op=.defer c):(∃d w',(execOp ρ o).run P w=.ok (.defer d) w')\/(∃x w',(execOp ρ o).run P w=.halt x w'):=by
 unfold execOp;cases hr:(resolve ρ c o.type).run P w with
 |ok d w'=>left;exact ⟨d,w',HR⟩
 |halt x w'=>right;exact ⟨x,w',HR⟩
def Tz (P:Program) (o:Oper) (a:Act) (C:G->World->Prop) (g:G) (K:Act->G->Prop):Prop:=
 ∀w,C g w->DV P (λv w'=>∃g',C g' w'/\K (a.put o.dst v) g') ((execOp a.eval o).run P w)
def Dr (P:Program) (ops:Array Oper) (D:World->Prop) (C:G->World->Prop) (sp:Nat->Bool) (i:Nat) (K:Act->G->Prop) (a:Act) (g:G):Prop:=
 match ops[i]? with
 |none=>K a g
 |some o=>if Region.wanted o (yielded ops a.tmps) then (if sp i then Tz P o a C g K else calm P o a D λa'=>K a' g) else K (a.put o.dst undef) g
def mr {o:Oper}{a:Act}{K K':Act->Prop}(h:∀a,K a->K' a) (hh:calm P o a D K):calm P o a D K':=
 let ⟨v,h1,h2⟩:=hh
 ⟨v,h1,h _ h2⟩
def Jx {R R':Value->World->Prop}(h:∀v w,R v w->R' v w) {r:Result Next}(hh:DV P R r):DV P R' r:=by
 cases r with
 |ok n w'=>
  cases n<;>simp only [DV] at hh|-
  case value u=>exact h _ _ hh
  case skip=>exact h _ _ hh
  case enter f args=>exact hh.mono λe w'' ⟨v,he,hr⟩=>⟨v,he,h _ _ hr⟩
  case round l f tmps assign body=>exact hh.mono λe w'' ⟨v,he,hr⟩=>⟨v,he,h _ _ hr⟩
 |halt x w'=>simp only [DV] at hh
def aCo {o:Oper}{a:Act}{g:G}{K K':Act->G->Prop}(h:∀a g,K a g->K' a g) (hh:Tz P o a C g K):Tz P o a C g K':=
 λw hw=>Jx (λ_ _ ⟨g',hc,hk⟩=>⟨g',hc,h _ _ hk⟩) (hh w hw)
def aDp {i:Nat}{a:Act}{g:G}{K K':Act->G->Prop}(h:∀a g,K a g->K' a g) (hh:Dr P ops D C sp i K a g):Dr P ops D C sp i K' a g:=by
 unfold Dr at*;split
 ·grind
 ·rename_i o ho
  simp only [ho] at hh;split
  ·rename_i hw
   simp only [hw,Bm] at hh;split
   ·rename_i hs;simp only [hs,Bm] at hh;exact aCo h hh
   ·rename_i hs;simp only [hs] at hh;exact mr (λa=>h a g) hh
  ·grind
def KA (P:Program) (md:Region.Mode) (ops:Array Oper) (D:World->Prop) (C:G->World->Prop) (sp:Nat->Bool) (Q:Act->G->Prop):Nat->Array Bool->Act->G->Prop
 |0,listed,a,g=>Region.ready md ops listed=[]/\Q a g
 |fuel+1,listed,a,g=>
  (Region.ready md ops listed=[]->Q a g)/\
  ∀i∈Region.ready md ops listed,Dr P ops D C sp i (KA P md ops D C sp Q fuel (listed.setIfInBounds i true)) a g
def aCJ {r:Option Nat}{m l:Nat}{f:FuncId}{tmps:Array Value}{assign body:Code}{w:World}{R:Ending->World->Prop}(h:RoundIn Fence.wide 0 P l f tmps assign body w R):RoundIn (DR r) m P l f tmps assign body w R:=
 ⟨trivial,λc cs _=>h.2 c cs (room_wide _)⟩
def af0 {o:Oper}{a:Act}{K:Act->Prop}{K':Act->World->Prop}{Q':Exit->Act->World->Prop}{w:World}(hw:D w)
  (h:∀a w',Below w.heap.size w w'->K a->K' a w') (hh:calm P o a D K) (r:Option Nat) (m:Nat):o.wpIn (DR r) m P a w K' Q':=by
 obtain ⟨v,h1,h2⟩:=hh
 have h3:=h1 w hw
 unfold NJ at h3
 have hnd:∀c,o.op≠ .defer c:=λc hc=>by
  rcases aBO (P:=P) (ρ:=a.eval) (w:=w) hc with ⟨d,w',e⟩ |⟨d,w',e⟩<;>rw [e] at h3<;>simp only [nR] at h3
 refine ⟨λ_ _=>trivial,?_⟩
 rw [semAt_eq hnd];generalize (execOp a.eval o).run P w=r at*;cases r with
 | ok n w'=>
  cases n<;>simp only [nR] at h3<;>simp only [Oper.uponIn]
  case value u=>
   obtain ⟨e1,e2⟩:=h3;rw [e1,e2];exact h _ _ (Below.refl _ _) h2
  case skip=>
   obtain ⟨e1,e2⟩:=h3;rw [e1,<-e2];exact h _ _ (Below.refl _ _) h2
  case enter f args=>
   obtain ⟨e1,hc⟩:=h3;rw [e1];exact ⟨λh=>Ah,VA.2 (hc.mono λe w'' ⟨he,hw''⟩=>AA)⟩
 |halt x w'=>simp only [nR] at h3
def afu {o:Oper}{a:Act}{g:G}{K:Act->G->Prop}{K':Act->World->Prop}{Q':Exit->Act->World->Prop}{w:World}(hw:C g w)
  (h:∀a g w',C g w'->K a g->K' a w') (hh:Tz P o a C g K) (r:Option Nat) (m:Nat):o.wpIn (DR r) m P a w K' Q':=by
 have h3:=hh w hw
 have hnd:∀c,o.op≠ .defer c:=λc hc=>by
  rcases aBO (P:=P) (ρ:=a.eval) (w:=w) hc with ⟨d,w',e⟩ |⟨d,w',e⟩<;>rw [e] at h3<;>simp only [DV] at h3
 refine ⟨λ_ _=>trivial,?_⟩
 rw [semAt_eq hnd];generalize (execOp a.eval o).run P w=r at*;cases r with
 | ok n w'=>
  cases n<;>simp only [DV] at h3<;>simp only [Oper.uponIn]
  case value u=>obtain ⟨g',h1,h2⟩:=h3;exact h _ _ _ h1 h2
  case skip=>obtain ⟨g',h1,h2⟩:=h3;exact h _ _ _ h1 h2
  case enter f args=>
   exact ⟨λh=>Ah,VA.2 (h3.mono λe w'' ⟨v,he,g',h1,h2⟩=>AA)⟩
  case round l f tmps assign body=>
   exact ⟨λh=>Ah,aCJ (h3.mono λe w'' ⟨v,he,g',h1,h2⟩=>AA)⟩
 |halt x w'=>simp only [DV] at h3
def aeb (hD:∀g w,C g w->D w) (hkeep:∀g w w',C g w->Below w.heap.size w w'->C g w') {i:Nat}{a:Act}{g:G}{K:Act->G->Prop}{K':Act->World->Prop}{Q':Exit->Act->World->Prop}{w:World}(hC:C g w)
  (h:∀a g w',C g w'->K a g->K' a w') (hh:Dr P ops D C sp i K a g) (r:Option Nat) (m:Nat):wpOpIn (DR r) m P ops Q' i K' a w:=by
 unfold Dr at hh;unfold wpOpIn;split
 ·grind
 ·rename_i o ho
  simp only [ho] at hh;split
  ·rename_i hw
   simp only [hw,Bm] at hh
   by_cases hs:sp i=true
   ·simp only [hs,Bm] at hh;exact afu hC h hh r m
   ·simp only [hs] at hh;exact af0 (hD _ _ hC) (λa w' hb hk=>h a g w' (hkeep _ _ _ hC hb) hk) hh r m
  ·rename_i hw;simp only [hw] at hh;exact ⟨λ_ _=>trivial,h _ _ _ hC hh⟩
def mU (hD:∀g w,C g w->D w) (hkeep:∀g w w',C g w->Below w.heap.size w w'->C g w') {Q:Act->G->Prop}{Q':Exit->Act->World->Prop}(hQ:∀a g w,C g w->Q a g->Q' .normal a w) (r:Option Nat) (m:Nat):
  ∀(fuel:Nat) (listed:Array Bool) (a:Act) (g:G) (w:World),C g w->KA P md ops D C sp Q fuel listed a g->wpAnyIn (DR r) m P md ops Q' fuel listed a w
 |0,_,_,_,_,hw,h=>⟨h.1,hQ _ _ _ hw h.2⟩
 |fuel+1,_,_,_,_,hw,h=>⟨λh0=>hQ _ _ _ hw (h.1 h0),λi hi=>aeb hD hkeep hw (λa' g' w' hw'=>mU hD hkeep hQ r m fuel _ a' g' w' hw') (h.2 i hi) r m⟩
def L4 (P:Program) (ops:Array Oper) (D:World->Prop) (o:Oper) (v:Value) (a:Act):Prop:=
 (Region.wanted o (yielded ops a.tmps)=true/\∀w,D w->NJ P o a w v)\/
 (Region.wanted o (yielded ops a.tmps)=false/\v=undef)
def L4.Dr {i:Nat}{o:Oper}{v:Value}{a:Act}{g:G}(hi:ops[i]? =some o) (hs:sp i=false) (hy:L4 P ops D o v a) {K:Act->G->Prop}(h:K (a.put o.dst v) g):Dr P ops D C sp i K a g:=by
 unfold Go.Proofs.YtgmhhjldohjpmaaGreatDoor.Dr;simp only [hi];rcases hy with ⟨hw,hv⟩ |⟨hw,rfl⟩
 ·simp only [hw,Bm,hs,HP,FL];exact ⟨v,hv,h⟩
 ·grind
def L4.of_same {o:Oper}{v:Value}{a a':Act}(hy:L4 P ops D o v a) (he:execOp a'.eval o=execOp a.eval o)
  (hw:Region.wanted o (yielded ops a'.tmps)=Region.wanted o (yielded ops a.tmps)):L4 P ops D o v a':=by
 unfold L4 NJ at*
 rwa [he,hw]
def adO {i:Nat}{o:Oper}{a:Act}{g:G}{K:Act->G->Prop}(hi:ops[i]? =some o) (hs:sp i=false) (h:Dr P ops D C sp i K a g):∃v,L4 P ops D o v a/\K (a.put o.dst v) g:=by
 unfold Dr at h;simp only [hi] at h
 by_cases hw:Region.wanted o (yielded ops a.tmps)=true
 ·simp only [hw,Bm,hs,HP,FL] at h
  obtain ⟨v,h1,h2⟩:=h;exact ⟨v,.inl ⟨hw,h1⟩,h2⟩
 ·simp only [hw] at h
  exact ⟨undef,.inr ⟨AA,rfl⟩,h⟩
def aqd {j:Nat}{oi oj:Oper}{v:Value}(hj:ops[j]? =some oj) (hap:oi.apart ops oj=true)
  (hsi:∀cs b,oi.op≠ .select cs b) (hsj:∀cs b,oj.op≠ .select cs b) {K:Act->G->Prop} {a:Act} {g:G}
  (hy:L4 P ops D oi v a) (h:Dr P ops D C sp j K (a.put oi.dst v) g):
  Dr P ops D C sp j (λa' g'=>L4 P ops D oi v a'/\K (a'.put oi.dst v) g') a g:=by
 obtain ⟨h1,h2,h3⟩:=ZZ hap
 have keep:∀(a:Act),L4 P ops D oi v a->∀u,L4 P ops D oi v (a.put oj.dst u):=λa hy u=>
  hy.of_same (execOp_put oi hsi a oj.dst u h3) (wanted_put oi a oj.dst u h3)
 unfold Dr at*;simp only [hj] at*;rw [wanted_put oj a oi.dst v h1] at h;split
 ·rename_i hw
  simp only [hw,Bm] at h;split
  ·rename_i hs
   simp only [hs,Bm] at h;intro w hw'
   have:=h w hw'
   rw [execOp_put oj hsj a oi.dst v h1] at this;refine Jx (λu w'' ⟨g',hc,hk⟩=>⟨g',hc,keep a hy u,?_⟩) this
   rw [<-Act.put_comm a v u h2];exact hk
  ·rename_i hs
   simp only [hs] at h;obtain ⟨u,hu,hn⟩:=h;refine ⟨u,λw hw'=>?_,keep a hy u,by rw [<-Act.put_comm a v u h2];exact hn⟩
   have:=hu w hw'
   unfold NJ at*
   rwa [execOp_put oj hsj a oi.dst v h1] at this
 ·rename_i hw
  simp only [hw] at h;exact ⟨keep a hy _,by rw [<-Act.put_comm a v undef h2];exact h⟩
def adf {Q:Act->G->Prop}{i:Nat}{oi:Oper}{v:Value}(hi:ops[i]? =some oi) (hs:sp i=false) (hsel:∀(j:Nat) (o:Oper) cs b,ops[j]? =some o->o.op≠ .select cs b):
  ∀(fuel:Nat) (listed:Array Bool) (a:Act) (g:G),
   (∀j oj,ops[j]? =some oj->j≠i->listed.getD j true=false->(∀e∈oj.after,Region.binds md e=true->e.on≠i)->oi.apart ops oj=true)->
   i∈Region.ready md ops listed->L4 P ops D oi v a->
   KA P md ops D C sp Q fuel (listed.setIfInBounds i true) (a.put oi.dst v) g->KA P md ops D C sp Q (fuel+1) listed a g:=by
 intro fuel
 induction fuel with
 | zero=>
  intro listed a g _ hr hy H;refine ⟨λh=>AA,λj hj=>?_⟩
  by_cases hji:j=i
  ·subst hji;exact hy.Dr hi hs H
  ·have:=ready_mono hj hji
   rw [H.1] at this;cases this
 | succ fuel ih=>
  intro listed a g hfree hr hy H;refine ⟨λh=>AA,λj hj=>?_⟩
  by_cases hji:j=i
  ·subst hji;exact hy.Dr hi hs H
  ·have h1:=H.2 j (ready_mono hj hji)
   obtain ⟨hjun,oj,hoj,hall⟩:=Eh.1 hj
   have hnot:∀e∈oj.after,Region.binds md e=true->e.on≠i:=λe he hb heq=>by
    have h1:=hall e he hb
    have h0:=(Eh.1 hr).1
    rcases PV i listed.size with h'|h'
    ·grind
    ·grind
   have h2:=aqd hoj (hfree j oj hoj hji hjun hnot) (λcs b=>hsel i oi cs b hi) (λcs b=>hsel j oj cs b hoj) hy h1
   have hfree':∀k ok,ops[k]? =some ok->k≠i->(listed.setIfInBounds j true).getD k true=false->
     (∀e∈ok.after,Region.binds md e=true->e.on≠i)->oi.apart ops ok=true:=λk ok hk hki hun hno=>by
    refine hfree k ok hk hki ?_ hno
    by_cases hjk:j=k
    ·grind
    ·simp_all
   refine aDp (λa' g' h3=>ih (listed.setIfInBounds j true) a' g' hfree' (ready_mono hr (OC hji)) h3.1 ?_) h2
   rw [Array.setIfInBounds_comm _ _ hji];exact h3.2
def He (P:Program) (ops:Array Oper) (D:World->Prop) (K:Act->Prop):List Bool->List Oper->Act->Prop
 |f::fs,o::os,a=>if f then He P ops D K fs os a else if Region.wanted o (yielded ops a.tmps) then calm P o a D (He P ops D K fs os) else He P ops D K fs os (a.put o.dst undef)
 |_,_,a=>K a
def GV (P:Program) (ops:Array Oper) (C:G->World->Prop) (Q:Act->G->Prop):List Bool->List Oper->Act->G->Prop
 |f::fs,o::os,a,g=>if f then (if Region.wanted o (yielded ops a.tmps) then Tz P o a C g (GV P ops C Q fs os) else GV P ops C Q fs os (a.put o.dst undef) g) else GV P ops C Q fs os a g
 |_,_,a,g=>Q a g
def J2 (md:Region.Mode) (ops:Array Oper) (flags:List Bool):List Nat->Array Bool->Bool
 | [],listed=>(Region.ready md ops listed).isEmpty
 |i::is,listed=>(if flags.getD i false then Region.ready md ops listed==[i] else (Region.ready md ops listed).contains i&&Region.free md ops listed i)&&J2 md ops flags is (listed.setIfInBounds i true)
def idxs (b:Bool):List Bool->Nat->List Nat
 | [],_=>[]
 |f::fs,k=>if f=b then k::idxs b fs (k+1) else idxs b fs (k+1)
def fu (ops:Array Oper) (flags:List Bool):Bool:=letI a:=idxs false flags 0++idxs true flags 0;Region.noSelect ops&&flags.length==ops.size&&a.length==ops.size&&J2 .any ops flags a (Array.replicate ops.size false)
def aBD {flags:List Bool}{Q:Act->G->Prop}(hs:Region.noSelect ops=true):∀(is:List Nat) (listed:Array Bool) (a:Act) (g:G),
  J2 md ops flags is listed=true->(is.foldr (λi K=>Dr P ops D C (λi=>flags.getD i false) i K) Q) a g->KA P md ops D C (λi=>flags.getD i false) Q is.length listed a g
 | [],_,_,_,hB,h=>⟨by simpa [J2] using hB,h⟩
 | i::is,listed,a,g,hB,h=>by
  simp only [J2,AU] at hB;obtain ⟨h1,h2⟩:=hB;simp only [jU] at h
  by_cases hf:flags.getD i false=true
  ·simp only [hf,Bm,Cj] at h1
   refine ⟨λh0=>AA,λj hj=>?_⟩
   rw [h1] at hj;obtain rfl:=Kp.1 hj;exact aDp (λa' g' hk=>aBD hs is _ a' g' h2 hk) h
  ·rw [AD hf,AU] at h1
   obtain ⟨hr,hfr⟩:=h1
   have hr':i∈Region.ready md ops listed:=AA
   obtain ⟨_,oi,hoi,_⟩:=Eh.1 hr';obtain ⟨v,hy,hK⟩:=adO hoi AA h;exact adf hoi AA (Region.noSelect_spec hs) is.length listed a g (Region.free_spec hoi hfr) hr' hy (aBD hs is _ _ _ h2 hK)
def aBN {flags:List Bool}{Q:Act->G->Prop}:∀(fs:List Bool) (os:List Oper) (k:Nat),(∀j,fs[j]? =flags[k+j]?)->(∀j,os[j]? =ops[k+j]?)->fs.length=os.length->
  ∀(a:Act) (g:G),He P ops D (λa=>Q a g) fs os a->((idxs false fs k).foldr (λi K=>Dr P ops D C (λi=>flags.getD i false) i K) Q) a g
 | [],[],_,_,_,_,_,_,h=>h
 | f::fs,o::os,k,hf,ho,hl,a,g,h=>by
  have ho0:ops[k]? =some o:=aNJ
  have hf0:flags.getD k false=f:=aMJ
  have ih:=aBN (Q:=Q) (flags:=flags) fs os (k+1) (λj=>aMs) (λj=>aMt) AA
  cases f with
  |true=>simp only [idxs,He,Bool.true_eq_false,Bm,FL] at h|-;exact ih a g h
  |false=>
   simp only [idxs,He,Bm,HP,FL] at h|-;simp only [jU];unfold Dr;simp only [ho0,hf0,HP,FL];split
   ·rename_i hw;simp only [hw,Bm] at h;exact mr (λa' hk=>ih a' g hk) h
   ·rename_i hw;simp only [hw] at h;exact ih _ _ h
 | [],_::_,_,_,_,hl,_,_,_=>AA
 |_::_,[],_,_,_,hl,_,_,_=>AA
def aBy {flags:List Bool}{Q:Act->G->Prop}:∀(fs:List Bool) (os:List Oper) (k:Nat),(∀j,fs[j]? =flags[k+j]?)->(∀j,os[j]? =ops[k+j]?)->fs.length=os.length->
  ∀(a:Act) (g:G),GV P ops C Q fs os a g->((idxs true fs k).foldr (λi K=>Dr P ops D C (λi=>flags.getD i false) i K) Q) a g
 | [],[],_,_,_,_,_,_,h=>h
 | f::fs,o::os,k,hf,ho,hl,a,g,h=>by
  have ho0:ops[k]? =some o:=aNJ
  have hf0:flags.getD k false=f:=aMJ
  have ih:=aBy (Q:=Q) (flags:=flags) fs os (k+1) (λj=>aMs) (λj=>aMt) AA
  cases f with
  |false=>simp only [idxs,GV,HP,FL] at h|-;exact ih a g h
  |true=>
   simp only [idxs,GV,Bm] at h|-;simp only [jU];unfold Dr;simp only [ho0,hf0,Bm];split
   ·rename_i hw;simp only [hw,Bm] at h;exact aCo (λa' g' hk=>ih a' g' hk) h
   ·rename_i hw;simp only [hw] at h;exact ih _ _ h
 | [],_::_,_,_,_,hl,_,_,_=>AA
 |_::_,[],_,_,_,hl,_,_,_=>AA
def aea {r:Option Nat}{m:Nat}{Q:Exit->Act->World->Prop}{a:Act}{w:World}{l:List Oper}(flags:List Bool) (g:G)
  (hB:fu l.toArray flags=true) (hD:∀g w,C g w->D w) (hkeep:∀g w w',C g w->Below w.heap.size w w'->C g w') (hC:C g {w with drawn:=w.drawn+1})
  (h:He P l.toArray D (λa1=>GV P l.toArray C (λa' g'=>∀w',C g' w'->Q .normal a' w') flags l a1 g) flags l a):wpAnyIn (DR r) m P .any l.toArray Q l.toArray.size (Array.replicate l.toArray.size false) a {w with drawn:=w.drawn+1}:=by
 simp only [fu,AU,Cj] at hB;obtain ⟨⟨⟨h1,h2⟩,h3⟩,h4⟩:=hB;refine mU (D:=D) (C:=C) (sp:=λi=>flags.getD i false) hD hkeep (Q:=λa' g'=>∀w',C g' w'->Q .normal a' w') (λ_ _ w' hw' h=>h w' hw') r m _ _ _ g _ hC ?_
 have h5:=aBD (P:=P) (D:=D) (C:=C) (Q:=λa' g'=>∀w',C g' w'->Q .normal a' w') h1 _ _ a g h4
 rw [h3] at h5;refine h5 ?_;rw [List.foldr_append];refine aBN flags l 0 AJ AJ AA a g ?_;refine (?_:∀(fs:List Bool) (os:List Oper) (a:Act),He P l.toArray D (λa1=>GV P l.toArray C (λa' g'=>∀w',C g' w'->Q .normal a' w') flags l a1 g) fs os a->He P l.toArray D (λa=>(List.foldr (λi K=>Dr P l.toArray D C (λi=>flags.getD i false) i K) (λa' g'=>∀w',C g' w'->Q .normal a' w') (idxs true flags 0)) a g) fs os a) flags l a h
 intro fs
 induction fs with
 |nil=>intro os a hh;cases os<;>exact aBy flags l 0 AJ AJ AA _ _ hh
 | cons f fs ih=>
  intro os a hh;cases os with
  |nil=>exact aBy flags l 0 AJ AJ AA _ _ hh
  | cons o os=>
   simp only [He] at hh|-;split
   ·grind
   ·rename_i hf
    simp only [hf,HP,FL] at hh;split
    ·rename_i hw;simp only [hw,Bm] at hh;exact mr (λa' hk=>ih _ _ hk) hh
    ·grind
def agS {D:World->Prop}{K:Act->Prop}{a:Act}(h:K a):He P ops D K [] [] a:=by simpa [He] using h
def agR {C:G->World->Prop}{Q:Act->G->Prop}{a:Act}{g:G}(h:Q a g):GV P ops C Q [] [] a g:=by simpa [GV] using h
def lF (md:Region.Mode) (ops:Array Oper):List Nat->Array Bool->Bool
 | [],_=>true
 |i::is,listed=>((Region.ready md ops listed).contains i&&Region.free md ops listed i)&&lF md ops is (listed.setIfInBounds i true)
def T8:List Nat->Array Bool->Array Bool
 | [],l=>l
 |i::is,l=>T8 is (l.setIfInBounds i true)
def adg {flags:List Bool}{Q:Act->G->Prop}(hs:Region.noSelect ops=true) (m:Nat):∀(is:List Nat) (listed:Array Bool) (a:Act) (g:G),(∀i∈is,flags.getD i false=false)->
  lF md ops is listed=true->(is.foldr (λi K=>Dr P ops D C (λi=>flags.getD i false) i K) (λa g=>KA P md ops D C (λi=>flags.getD i false) Q m (T8 is listed) a g)) a g->KA P md ops D C (λi=>flags.getD i false) Q (is.length+m) listed a g
 | [],_,_,_,_,_,h=>by rw [Bh,EK];exact h
 |i::is,listed,a,g,hf,hB,h=>by
  simp only [lF,AU] at hB;obtain ⟨⟨hr,hfr⟩,h2⟩:=hB;simp only [jU,T8] at h
  have hfi:=hf i AJ
  have hr':i∈Region.ready md ops listed:=AA
  obtain ⟨_,oi,hoi,_⟩:=Eh.1 hr';obtain ⟨v,hy,hK⟩:=adO hoi hfi h
  have:=adf hoi hfi (Region.noSelect_spec hs) (is.length+m) listed a g (Region.free_spec hoi hfr) hr' hy (adg hs m is _ _ _ (λj hj=>hf j AA) h2 hK)
  grind
def mW (b:Bool):∀(fs:List Bool) (k i:Nat),i∈idxs b fs k->k<=i/\fs[i-k]? =some b
 | [],_,_,h=>by simp [idxs] at h
 | f::fs,k,i,h=>by
  simp only [idxs] at h;split at h
  ·rename_i hf
   rcases B1.1 h with rfl|h
   ·grind
   ·exact aLQ
  ·exact aLQ
def TC (ops:Array Oper) (flags:List Bool):Bool:=
 Region.noSelect ops&&flags.length==ops.size&&(idxs false flags 0).length+(idxs true flags 0).length==ops.size&&lF .any ops (idxs false flags 0) (Array.replicate ops.size false)
def ade {r:Option Nat}{m:Nat}{Q:Exit->Act->World->Prop}{a:Act}{w:World}{l:List Oper}(flags:List Bool) (g:G)
  (hB:TC l.toArray flags=true) (hD:∀g w,C g w->D w) (hkeep:∀g w w',C g w->Below w.heap.size w w'->C g w') (hC:C g {w with drawn:=w.drawn+1})
  (h:He P l.toArray D (λa1=>KA P .any l.toArray D C (λi=>flags.getD i false) (λa' g'=>∀w',C g' w'->Q .normal a' w') (idxs true flags 0).length (T8 (idxs false flags 0) (Array.replicate l.toArray.size false)) a1 g) flags l a):wpAnyIn (DR r) m P .any l.toArray Q l.toArray.size (Array.replicate l.toArray.size false) a {w with drawn:=w.drawn+1}:=by
 simp only [TC,AU,Cj] at hB;obtain ⟨⟨⟨h1,h2⟩,h3⟩,h4⟩:=hB;refine mU (D:=D) (C:=C) (sp:=λi=>flags.getD i false) hD hkeep (Q:=λa' g'=>∀w',C g' w'->Q .normal a' w') (λ_ _ w' hw' h=>h w' hw') r m _ _ _ g _ hC ?_
 have h5:=adg (P:=P) (D:=D) (C:=C) (flags:=flags) (Q:=λa' g'=>∀w',C g' w'->Q .normal a' w') h1 (idxs true flags 0).length (idxs false flags 0) _ a g (λi hi=>by
  obtain ⟨_,h⟩:=mW false flags 0 i hi;simp only [Nat.sub_zero] at h
  simp [List.getD,h]) h4
 rw [h3] at h5;refine h5 ?_;exact aBN flags l 0 AJ AJ AA a g h
def UP (md:Region.Mode) (ops:Array Oper):Nat->List Nat->List Nat
 |0,l=>l
 |k+1,l=>l++UP md ops k (l.flatMap λi=>match ops[i]? with
  |some o=>(o.after.toList.filter (Region.binds md)).map (·.on)
  |none=>[])
def lastB (md:Region.Mode) (ops:Array Oper) (o:Oper):Bool:=
 o.guard.isNone&&o.after.toList.all (λe=>decide (e.on<ops.size))&&
 (List.range ops.size).all (λi=>(match ops[i]? with
  |some p=>p.after.toList.all (λe=>decide (e.on<i))&&(match p.guard with|none=>true|some (j,_)=>decide (j<ops.size))
  |none=>true))&&
 (let l:=UP md ops ops.size ((o.after.toList.filter (Region.binds md)).map (·.on));(List.range ops.size).all λi=>l.contains i)
def Closed (md:Region.Mode) (ops:Array Oper) (listed:Array Bool):Prop:=
 ∀(i:Nat) (o:Oper),ops[i]? =some o->listed.getD i false=true->∀e∈o.after,Region.binds md e=true->listed.getD e.on false=true
def Closed.back {listed:Array Bool}(hc:Closed md ops listed):∀(k:Nat) (l:List Nat),(∀i∈l,listed.getD i false=true)->∀i∈UP md ops k l,listed.getD i false=true
 |0,_,h=>h
 | k+1,l,h=>λi hi=>by
  simp only [UP,Bp] at hi;rcases hi with hi|hi
  ·exact h i hi
  ·refine Closed.back hc k _ (λj hj=>?_) i hi
   obtain ⟨i',h1,h2⟩:=List.mem_flatMap.1 hj;split at h2
   ·rename_i o ho
    obtain ⟨e,h3,rfl⟩:=Eg.1 h2;obtain ⟨h4,h5⟩:=HJ.1 h3;exact hc i' o ho (h i' h1) e AA h5
   ·cases h2
def Closed.put {listed:Array Bool}(hc:Closed md ops listed) {i:Nat}(hi:i∈Region.ready md ops listed):Closed md ops (listed.setIfInBounds i true):=λj o hj hl e he hb=>by
 by_cases hij:i=j
 ·subst hij
  obtain ⟨_,o',ho',h2⟩:=Eh.1 hi;obtain rfl:o'=o:=Dw (ho'.symm.trans hj);exact getD_set_true (h2 e he hb)
 ·rw [ZV false hij] at hl
  exact getD_set_true (hc j o hj hl e he hb)
def Vj {l:Array Bool}{i:Nat}(d b:Bool) (h:i<l.size):(l.push b).getD i d=l.getD i d:=by
 simp [jY,VB h]
def aCu {l:Array Bool}(b d:Bool):(l.push b).getD l.size d=b:=AJ
def set_push {l:Array Bool}{i:Nat}(b:Bool) (h:i<l.size):(l.push b).setIfInBounds i true=(l.setIfInBounds i true).push b:=by
 apply Array.ext_getElem?
 intro j
 by_cases hij:i=j
 ·subst hij
  grind
 ·grind
def nv {l:Array Bool}{i:Nat}(h:i<l.size):l.getD i true=l.getD i false:=kf
def afd {o:Oper}(hl:lastB md ops o=true) {listed:Array Bool}(hs:listed.size=ops.size) (hr:Region.ready md ops listed=[]):∀i,i<ops.size->listed.getD i false=true:=by
 intro i
 induction i using Nat.strongRecOn with
 | _ i ih=>
  intro hi
  by_cases hL:listed.getD i false=true
  ·exact hL
  exfalso;simp only [lastB,AU,BL,I3] at hl
  have:i∈Region.ready md ops listed:=Eh.2 ⟨AA,_,PR hi,λe he hb=>by
   have h3:e.on<i:=AA
   exact ih e.on h3 A0⟩
  rw [hr] at this;cases this
def XO (F:Fence) (m:Nat) (P:Program) (ops:Array Oper) (Q:Exit->Act->World->Prop) (n:Nat):Exit->Act->World->Prop
 | .normal,a,w=>wpOpIn F m P ops Q n (Q .normal) a w
 |e,a,w=>Q e a w
def af5 {F:Fence}{m n:Nat}{ops:Array Oper}{Q:Exit->Act->World->Prop}{o:Oper}{a:Act}{K:Act->World->Prop}{r:Result Next}(h:o.uponIn F m P a K (XO F m P ops Q n) r):o.uponIn F m P a K Q r:=by
 cases r with
 |ok x w'=>cases x<;>exact h
 |halt x w'=>cases x<;>exact h
def aeM {o:Oper}{tmps:Array Value}{j:Nat}(h:j<ops.size):yielded (ops.push o) tmps j=yielded ops tmps j:=by
 simp [yielded,jY,VB h]
def apY {F:Fence}{m:Nat}{Q:Exit->Act->World->Prop}{o:Oper}(hl:lastB md ops o=true) {i:Nat}(hi:i<ops.size) {K:Act->World->Prop}{a:Act}{w:World}{n:Nat}
  (h:wpOpIn F m P ops (XO F m P (ops.push o) Q n) i K a w):wpOpIn F m P (ops.push o) Q i K a w:=by
 unfold wpOpIn at*;simp only [jY,VB hi,FL,PR hi] at h|-;simp only [lastB,AU,BL,I3] at hl
 have h1:=hl.1.2 i hi
 simp only [PR hi,AU] at h1
 have hw:Region.wanted ops[i] (yielded (ops.push o) a.tmps)=Region.wanted ops[i] (yielded ops a.tmps):=by
  unfold Region.wanted
  have h2:=h1.2
  split
  ·rfl
  ·rename_i j want hg
   simp only [hg,AY] at h2;rw [aeM h2]
 rw [hw];split
 ·rename_i hw'
  rw [AE hw'] at h;exact ⟨h.1,af5 h.2⟩
 ·rename_i hw'
  rw [AD hw'] at h;exact h
def aBR {o:Oper}(hl:lastB md ops o=true) {listed:Array Bool}(hs:listed.size=ops.size) {b:Bool}{i:Nat}(hi:i<ops.size) (h:i∈Region.ready md (ops.push o) (listed.push b)):i∈Region.ready md ops listed:=by
 obtain ⟨h1,o',ho',h2⟩:=Eh.1 h;rw [Vj _ _ (hs▸hi)] at h1;simp only [jY,VB hi,FL,PR hi] at ho';obtain rfl:=Dw ho';refine Eh.2 ⟨h1,_,PR hi,λe he hb=>?_⟩
 simp only [lastB,AU,BL,I3] at hl
 have h4:e.on<i:=AA
 have h5:=h2 e he hb
 rwa [Vj _ _ A0] at h5
def Pv {listed:Array Bool}{i:Nat}(h:i∈Region.ready md ops listed):i<ops.size:=by
 obtain ⟨_,o,ho,_⟩:=Eh.1 h
 grind
def aex {o:Oper}(hl:lastB md ops o=true) {listed:Array Bool}(hs:listed.size=ops.size) (hr:Region.ready md ops listed=[]):Region.ready md (ops.push o) (listed.push true)=[]:=by
 refine wE.2 λi hi=>?_
 have h1:=Pv hi
 rw [wq] at h1;rcases PV i ops.size with h2|h2
 ·have:=aBR hl hs h2 hi
  rw [hr] at this;cases this
 ·obtain rfl:i=ops.size:=A0
  have h3:=(Eh.1 hi).1
  rw [<-hs,aCu] at h3;cases h3
def afP {o:Oper}(hl:lastB md ops o=true) {listed:Array Bool}(hs:listed.size=ops.size) (ha:∀i,i<ops.size->listed.getD i false=true):ops.size∈Region.ready md (ops.push o) (listed.push false):=by
 refine Eh.2 ⟨by rw [<-hs,aCu],o,AJ,λe he _=>?_⟩
 simp only [lastB,AU,BL] at hl
 have h1:e.on<ops.size:=AA
 rw [Vj _ _ A0]
 grind
def amT {o:Oper}(hl:lastB md ops o=true) {listed:Array Bool}(hs:listed.size=ops.size) (hc:Closed md ops listed) (h:ops.size∈Region.ready md (ops.push o) (listed.push false)):Region.ready md ops listed=[]:=by
 obtain ⟨_,o',ho',h2⟩:=Eh.1 h;simp only [lastB,AU,BL] at hl
 have h0:∀i∈UP md ops ops.size ((o.after.toList.filter (Region.binds md)).map (·.on)),listed.getD i false=true:=hc.back _ _ λi hi=>by
  obtain ⟨e,h3,rfl⟩:=Eg.1 hi;obtain ⟨h4,h5⟩:=HJ.1 h3
  have h6:e.on<ops.size:=AA
  have h7:=h2 e AA h5
  rwa [Vj _ _ A0] at h7
 refine wE.2 λi hi=>?_
 have h1:=Pv hi
 have h3:=hl.2 i AA
 have h4:=h0 i AA
 have h5:=(Eh.1 hi).1
 rw [nv A0,h4] at h5;cases h5
def af4 {F:Fence}{m:Nat}{Q:Exit->Act->World->Prop}{o:Oper}(hl:lastB md ops o=true):∀(fuel:Nat) (listed:Array Bool) (a:Act) (w:World),listed.size=ops.size->Closed md ops listed->
  wpAnyIn F m P md ops (XO F m P (ops.push o) Q ops.size) fuel listed a w->wpAnyIn F m P md (ops.push o) Q (fuel+1) (listed.push false) a w:=by
 have hend:∀(fuel:Nat) (listed:Array Bool) (a:Act) (w:World),listed.size=ops.size->Region.ready md ops listed=[]->wpOpIn F m P (ops.push o) Q ops.size (Q .normal) a w->
   wpOpIn F m P (ops.push o) Q ops.size (wpAnyIn F m P md (ops.push o) Q fuel ((listed.push false).setIfInBounds ops.size true)) a w:=λfuel listed a w hs hr h=>by
  have he:(listed.push false).setIfInBounds ops.size true=listed.push true:=by
   apply Array.ext_getElem?
   intro j
   by_cases hij:listed.size=j
   ·grind
   ·grind
  rw [he];refine wpOpIn_mono (λa w h=>?_) h
  have h0:=aex hl hs hr
  cases fuel with
  |zero=>exact ⟨h0,h⟩
  |succ fuel=>exact ⟨λ_=>h,λi hi=>AA⟩
 have hdead:∀(listed:Array Bool),listed.size=ops.size->Closed md ops listed->Region.ready md (ops.push o) (listed.push false)≠ []:=λlisted hs _ h=>by
  by_cases hr:Region.ready md ops listed=[]
  ·have:=afP hl hs (afd hl hs hr)
   rw [h] at this;cases this
  ·obtain ⟨i,hi⟩:=List.exists_mem_of_ne_nil _ hr
   have hlt:=Pv hi
   obtain ⟨h1,o',ho',h2⟩:=Eh.1 hi
   have:i∈Region.ready md (ops.push o) (listed.push false):=Eh.2 ⟨by rw [Vj _ _ A0];exact h1,o',AA,λe he hb=>by
    have h3:=h2 e he hb
    rw [Vj]
    ·exact h3
    ·rcases PV e.on listed.size with h'|h'
     ·exact h'
     ·simp [wb h'] at h3⟩
   rw [h] at this;cases this
 intro fuel
 induction fuel with
 | zero=>
  intro listed a w hs hc h;refine ⟨λh0=>absurd h0 (hdead listed hs hc),λi hi=>?_⟩
  have h1:=Pv hi
  rw [wq] at h1;rcases PV i ops.size with h2|h2
  ·have:=aBR hl hs h2 hi
   rw [h.1] at this;cases this
  ·obtain rfl:i=ops.size:=A0
   exact hend 0 listed a w hs h.1 h.2
 | succ fuel ih=>
  intro listed a w hs hc h;refine ⟨λh0=>absurd h0 (hdead listed hs hc),λi hi=>?_⟩
  have h1:=Pv hi
  rw [wq] at h1;rcases PV i ops.size with h2|h2
  ·have hr:=aBR hl hs h2 hi
   refine apY hl h2 (wpOpIn_mono (λa w hk=>?_) (h.2 i hr))
   rw [set_push _ A0];exact ih _ a w AA (hc.put hr) hk
  ·obtain rfl:i=ops.size:=A0
   have hr:=amT hl hs hc hi
   exact hend (fuel+1) listed a w hs hr (h.1 hr)
def aeB {F:Fence}{m id:Nat}{Q:Exit->Act->World->Prop}{o:Oper}{a:Act}{w:World}(hm:P.follows .mixedOrders=true) (hl:lastB .any ops o=true)
  (h:wpAnyIn F m P .any ops (XO F m P (ops.push o) Q ops.size) ops.size (Array.replicate ops.size false) a {w with drawn:=w.drawn+1}):(Code.region id (ops.push o) true).wpIn F m P Q a w:=by
 refine wpIn_region_any hm ?_
 have h1:=af4 hl ops.size (Array.replicate ops.size false) a _ AJ (λi o' ho' hL=>by
  have:=(HO.1 ho').1
  simp [this] at hL) h
 grind
end
structure DM (tr:List Nat) (w w':World):Prop where
 os:w'.os=w.os
 tape:w'.tape=w.tape
 output:w'.output=w.output
 size:w.heap.size<=w'.heap.size
 block:∀k,k<w.heap.size->k∉tr->w'.heap[k]? =w.heap[k]?
def af9 {tr:List Nat}{w w1 w2:World}(h:DM tr w w1) (hb:Below w1.heap.size w1 w2):DM tr w w2:=
 ⟨hb.os.trans h.os,hb.tape.trans h.tape,hb.output.trans h.output,G8 h.size hb.size,λk hk hn=>(hb.block k (ZH hk h.size)).trans (h.block k hk hn)⟩
def DM.refl (tr:List Nat) (w:World):DM tr w w:=⟨rfl,rfl,rfl,At _,λ_ _ _=>rfl⟩
end Go.Proofs.YtgmhhjldohjpmaaGreatDoor
namespace Go.Sx
open Go.Proofs.YtgmhhjldohjpmaaGreatDoor
open Go Go.RowKit
inductive Ty where
 |int (k:IntKind)
 |bool
 |str
 |sl (e:Ty)
 |pair (a b:Ty)
abbrev A7:Ty:=.int .i64
abbrev Ty.D:Ty->Type
 | .int _=>Int
 | .bool=>Bool
 | .str=>ByteArray
 | .sl e=>List e.D
 | .pair a b=>a.D×b.D
def Ty.n:Ty->Nat
 | .pair a b=>a.n+b.n
 |_=>1
def Ty.dflt:(t:Ty)->t.D
 | .int _=>(0:Int)
 | .bool=>false
 | .str=>ByteArray.empty
 | .sl _=>[]
 | .pair a b=>(a.dflt,b.dflt)
abbrev gx {e:Ty}(l:List e.D) (n:Int):e.D:=l.getD n.toNat e.dflt
def RD (Z:Nat->Prop) (w:World):(t:Ty)->t.D->Nat->Nat->Prop
 | .int k,n,b,o=>w.cell? ⟨b,o,none⟩=some (.int k n)
 | .bool,x,b,o=>w.cell? ⟨b,o,none⟩=some (.bool x)
 | .str,s,b,o=>w.cell? ⟨b,o,none⟩=some (.string s)
 | .sl e,l,b,o=>∃a cap,w.cell? ⟨b,o,none⟩=some (.slice a (List.length l) cap)/\List.length l<=cap/\(0<List.length l->∃b' o',a=some ⟨b',o',none⟩/\Z b'/\∀(i:Nat) (d:e.D),l[i]? =some d->RD Z w e d b' (o'+i*e.n))
 | .pair x y,d,b,o=>RD Z w x d.1 b o/\RD Z w y d.2 b (o+x.n)
def Pk {w w':World}{b o:Nat}(h:w'.heap[b]? =w.heap[b]?):w'.cell? ⟨b,o,none⟩=w.cell? ⟨b,o,none⟩:=World.cell?_of_block (w:=w) (w':=w') h
def RD.keep {Z Z':Nat->Prop}{w w':World}(hZ:∀b,Z b->Z' b) (hw:∀b,Z b->w'.heap[b]? =w.heap[b]?):
  ∀(t:Ty) (d:t.D) (b o:Nat),w'.heap[b]? =w.heap[b]? ->RD Z w t d b o->RD Z' w' t d b o
 | .int _,_,b,o,hb,h=>xc
 | .bool,_,b,o,hb,h=>xc
 | .str,_,b,o,hb,h=>xc
 | .sl e,l,b,o,hb,h=>by
  obtain ⟨a,cap,h1,h2,h3⟩:=h;refine ⟨a,cap,by rw [Pk hb];exact h1,h2,λhn=>?_⟩
  obtain ⟨b',o',h4,h5,h6⟩:=h3 hn;exact ⟨b',o',h4,hZ _ h5,λi d hd=>RD.keep hZ hw e d b' _ (hw b' h5) (h6 i d hd)⟩
 | .pair x y,d,b,o,hb,h=>by
  exact ⟨RD.keep hZ hw x d.1 b o hb h.1,RD.keep hZ hw y d.2 b _ hb h.2⟩
def RD.mono {Z Z':Nat->Prop}{w w':World}(hZ:∀b,Z b->Z' b) (hw:∀b,Z b->w'.heap[b]? =w.heap[b]?) (t:Ty) (d:t.D) (b o:Nat) (hz:Z b) (h:RD Z w t d b o):RD Z' w' t d b o:=RD.keep hZ hw t d b o (hw b hz) h
structure Loc where
 (b o:Nat)
 cap:Option Nat
instance:Inhabited Loc:=⟨⟨0,0,none⟩⟩
inductive LV where
 |v (x:Value)
 |bl (b:Bool)
 |ki (k:IntKind) (n:Int)
 |own (k off:Nat)
 |agg (l:List LV)
 |AM (l:List LV)
 |fn (f:FuncId) (cap:List LV)
 |fb (f:FuncId) (fs:List LV)
 |xq (n:Nat) (f:Nat->LV)
 |xl (e:Ty) (l:List e.D)
 |os (k es off n:Nat)
 |op (k es i j:Nat)
 |om (k:Nat)
 |mp (kd:IntKind) (ks:List Int) (vs:List LV)
 |oc (k es off n c:Nat)
 |CN (k:Nat)
 |junk
mutual
def R (β:Nat->Loc) (Z:Nat->Prop) (w:World):LV->Value->Prop
 | .v x,y=>y=x
 | .bl b,y=>y=.bool b
 | .ki k n,y=>y=.int k n
 | .own k off,y=>y=.pointer (some ⟨(β k).b,off,none⟩)
 | .agg l,y=>∃ys,y=.agg ys/\RL β Z w l ys.toList
 | .AM l,y=>∃ys,y=.tuple ys/\RL β Z w l ys.toList
 | .fn f cap,y=>∃ys,y=.func (.func f) #[] ys/\RL β Z w cap ys.toList
 | .fb f cap,y=>∃ys,y=.func (.func f) ys #[]/\RL β Z w cap ys.toList
 | .xq n f,y=>∃b off,y=.pointer (some ⟨b,off,none⟩)/\Z b/\∀j,j<n->∃z,w.cell? ⟨b,off+j,none⟩=some z/\R β Z w (f j) z
 | .xl e l,y=>∃a cap,y=.slice a (List.length l) cap/\List.length l<=cap/\(0<List.length l->∃b off,a=some ⟨b,off,none⟩/\Z b/\∀(i:Nat) (d:e.D),l[i]? =some d->RD Z w e d b (off+i*e.n))
 | .os k es off n,y=>match (β k).cap with
  |none=>n=0/\off=0/\y=.slice none 0 0
  |some c=>off+n<=c/\∃a,y=.slice (some a) n (c-off)/\(0<c-off->a=⟨(β k).b,(β k).o+off*es,none⟩)
 | .op k es i j,y=>(β k).cap≠none/\y=.pointer (some ⟨(β k).b,(β k).o+i*es+j,none⟩)
 | .om k,y=>y=.map (some (β k).b)
 | .mp kd ks vs,y=>∃r es clock,y=.map (some r)/\Z r/\w.heap[r]? =some (.map es clock)/\es.toList.map (·.key)=ks.map (.int kd)/\RL β Z w vs (es.toList.map (·.val))
 | .oc k es off n c,y=>off+n<=c/\∃a,y=.slice (some a) n (c-off)/\(0<c-off->a=⟨(β k).b,off*es,none⟩)
 | .CN k,y=>y=.func (.yield (β k).b) #[] #[]
 | .junk,_=>True
def RL (β:Nat->Loc) (Z:Nat->Prop) (w:World):List LV->List Value->Prop
 | [],ys=>ys=[]
 |x::xs,ys=>∃y zs,ys=y::zs/\R β Z w x y/\RL β Z w xs zs
end
/-Which own blocks a value names:all below n. -/
mutual
def okV (n:Nat):LV->Prop
 | .v _=>True
 | .bl _=>True
 | .ki _ _=>True
 | .own k _=>k<n
 | .agg l=>AR n l
 | .AM l=>AR n l
 | .fn _ cap=>AR n cap
 | .fb _ cap=>AR n cap
 | .xq _ f=>∀j,okV 0 (f j)
 | .xl _ _=>True
 | .os k _ _ _=>k<n
 | .op k _ _ _=>k<n
 | .om k=>k<n
 | .mp _ _ vs=>AR n vs
 | .oc k _ _ _ _=>k<n
 | .CN k=>k<n
 | .junk=>True
def AR (n:Nat):List LV->Prop
 | []=>True
 |x::xs=>okV n x/\AR n xs
end
mutual
def okV.mono {n m:Nat}(h:n<=m):∀(x:LV),okV n x->okV m x
 | .v _,_=>trivial
 | .bl _,_=>trivial
 | .ki _ _,_=>trivial
 | .own k _,hk=>VN
 | .agg l,hk=>kH
 | .AM l,hk=>kH
 | .fn _ l,hk=>kH
 | .fb _ l,hk=>kH
 | .xq _ f,hk=>by simp only [okV] at*;exact hk
 | .xl _ _,_=>trivial
 | .os k _ _ _,hk=>VN
 | .op k _ _ _,hk=>VN
 | .om k,hk=>VN
 | .mp _ _ vs,hk=>by simp only [okV] at*;exact AR.mono h vs hk
 | .oc k _ _ _ _,hk=>VN
 | .CN k,hk=>VN
 | .junk,_=>trivial
def AR.mono {n m:Nat}(h:n<=m):∀(x:List LV),AR n x->AR m x
 | [],_=>trivial
 |x::xs,hk=>by simp only [AR] at*;exact ⟨okV.mono h x hk.1,AR.mono h xs hk.2⟩
end
mutual
def R.mono {β β':Nat->Loc}{Z Z':Nat->Prop}{w w':World}{n:Nat}(hβ:∀k,k<n->β' k=β k) (hZ:∀b,Z b->Z' b) (hw:∀b,Z b->w'.heap[b]? =w.heap[b]?):
  ∀(x:LV) (y:Value),okV n x->R β Z w x y->R β' Z' w' x y
 | .v _,_,_,h=>h
 | .bl _,_,_,h=>h
 | .ki _ _,_,_,h=>h
 | .own k off,y,hk,h=>by simp only [R,okV] at*;rw [h,hβ k hk]
 | .agg l,y,hk,h=>by
  exact jh
 | .AM l,y,hk,h=>by
  exact jh
 | .fn f l,y,hk,h=>by
  exact jh
 | .fb f l,y,hk,h=>by
  exact jh
 | .xq n f,y,hk,h=>by
  simp only [R,okV] at*;obtain ⟨b,off,h1,hz,h2⟩:=h;refine ⟨b,off,h1,hZ b hz,λj hj=>?_⟩
  obtain ⟨z,h3,h4⟩:=h2 j hj;exact ⟨z,by rw [Pk (hw b hz)];exact h3,R.mono hβ hZ hw (f j) z (okV.mono (Kr _) _ (hk j)) h4⟩
 | .xl e l,y,hk,h=>by
  simp only [R] at*;obtain ⟨a,cap,h1,h2,h3⟩:=h;refine ⟨a,cap,h1,h2,λhn=>?_⟩
  obtain ⟨b,off,h4,h5,h6⟩:=h3 hn;exact ⟨b,off,h4,hZ b h5,λi d hd=>RD.mono hZ hw e d b _ h5 (h6 i d hd)⟩
 | .os k es off n,y,hk,h=>Zy
 | .op k es i j,y,hk,h=>Zy
 | .om k,y,hk,h=>Zy
 | .mp kd ks vs,y,hk,h=>by
  simp only [R,okV] at*;obtain ⟨r,es,clock,h1,h2,h3,h4,h5⟩:=h;exact ⟨r,es,clock,h1,hZ r h2,by rw [hw r h2];exact h3,h4,RL.mono hβ hZ hw vs _ hk h5⟩
 | .oc k es off n c,y,hk,h=>Zy
 | .CN k,y,hk,h=>Zy
 | .junk,_,_,_=>JK
def RL.mono {β β':Nat->Loc}{Z Z':Nat->Prop}{w w':World}{n:Nat}(hβ:∀k,k<n->β' k=β k) (hZ:∀b,Z b->Z' b) (hw:∀b,Z b->w'.heap[b]? =w.heap[b]?):
  ∀(x:List LV) (y:List Value),AR n x->RL β Z w x y->RL β' Z' w' x y
 | [],_,_,h=>aNK
 |x::xs,ys,hk,h=>by
  simp only [RL,AR] at*;obtain ⟨y,zs,h1,h2,h3⟩:=h;exact ⟨y,zs,h1,R.mono hβ hZ hw x y hk.1 h2,RL.mono hβ hZ hw xs zs hk.2 h3⟩
end
def Bk:(t:Ty)->t.D->List LV
 | .int k,n=>[.v (.int k n)]
 | .bool,b=>[.v (.bool b)]
 | .str,s=>[.v (.string s)]
 | .sl e,l=>[.xl e l]
 | .pair a b,d=>Bk a d.1++Bk b d.2
def Jr:∀(t:Ty) (d:t.D),(Bk t d).length=t.n
 | .int _,_=>rfl
 | .bool,_=>rfl
 | .str,_=>rfl
 | .sl _,_=>rfl
 | .pair a b,d=>by simp only [Bk,B0,Ty.n,Jr a d.1,Jr b d.2]
def NC (n:Nat):∀(t:Ty) (d:t.D),AR n (Bk t d)
 | .int _,_=>⟨trivial,trivial⟩
 | .bool,_=>⟨trivial,trivial⟩
 | .str,_=>⟨trivial,trivial⟩
 | .sl _,_=>⟨trivial,trivial⟩
 | .pair a b,d=>by
  have app:∀(l1 l2:List LV),AR n l1->AR n l2->AR n (l1++l2):=by
   intro l1
   induction l1 with
   |nil=>intro l2 _ h;exact h
   |cons x xs ih=>intro l2 h1 h2;exact ⟨h1.1,ih l2 h1.2 h2⟩
  simp only [Bk];exact app _ _ (NC n a d.1) (NC n b d.2)
def Wb {β:Nat->Loc}{Z:Nat->Prop}{w:World}:∀(t:Ty) (d:t.D) (b o:Nat),RD Z w t d b o->∀(j:Nat) (x:LV),(Bk t d)[j]? =some x->∃z,w.cell? ⟨b,o+j,none⟩=some z/\R β Z w x z
 | .int k,n,b,o,h,j,x,hx=>by
  exact xD
 | .bool,n,b,o,h,j,x,hx=>by
  exact xD
 | .str,n,b,o,h,j,x,hx=>by
  exact xD
 | .sl e,l,b,o,h,j,x,hx=>by
  simp only [Bk] at hx;cases j with
  |zero=>
   simp at hx;subst hx
   simp only [RD] at h;obtain ⟨a,cap,h1,h2,h3⟩:=h;exact ⟨_,h1,by simp only [R];exact ⟨a,cap,rfl,h2,h3⟩⟩
  |succ j=>simp at hx
 | .pair p q,d,b,o,h,j,x,hx=>by
  simp only [Bk] at hx;simp only [RD] at h
  by_cases hj:j<p.n
  ·rw [HN (by rw [Jr];exact hj)] at hx
   exact Wb p d.1 b o h.1 j x hx
  ·rw [Fu yO,Jr] at hx
   obtain ⟨z,h1,h2⟩:=Wb q d.2 b (o+p.n) h.2 (j-p.n) x hx;exact ⟨z,by rw [show o+j=o+p.n+(j-p.n) by omega];exact h1,h2⟩
def RL.length {β:Nat->Loc}{Z:Nat->Prop}{w:World}:∀ {l:List LV}{ys:List Value},RL β Z w l ys->ys.length=l.length
 | [],ys,h=>by simp only [RL] at h;simp [h]
 |x::xs,ys,h=>by
  simp only [RL] at h;obtain ⟨y,zs,rfl,_,h3⟩:=h
  simp [RL.length h3]
def RL.get {β:Nat->Loc}{Z:Nat->Prop}{w:World}:∀ {l:List LV}{ys:List Value}(i:Nat) (x:LV),RL β Z w l ys->l[i]? =some x->∃y,ys[i]? =some y/\R β Z w x y
 | [],ys,i,x,_,hx=>by simp at hx
 |x0::xs,ys,i,x,h,hx=>by
  simp only [RL] at h;obtain ⟨y,zs,rfl,h2,h3⟩:=h;cases i with
  |zero=>simp at hx;subst hx;exact ⟨y,AJ,h2⟩
  |succ i=>simp at hx;obtain ⟨y',h4,h5⟩:=RL.get i x h3 hx;exact ⟨y',by simpa using h4,h5⟩
def AR.get {n:Nat}:∀ {l:List LV}(i:Nat) (x:LV),AR n l->l[i]? =some x->okV n x
 | [],i,x,_,hx=>by simp at hx
 |x0::xs,i,x,h,hx=>by
  simp only [AR] at h;cases i with
  |zero=>simp at hx;subst hx;exact h.1
  |succ i=>simp at hx;exact AR.get i x h.2 hx
def RL.CO {β:Nat->Loc}{Z:Nat->Prop}{w:World}:∀ {l:List LV}{ys:List Value},ys.length=l.length->(∀(i:Nat) (x:LV),l[i]? =some x->∃y,ys[i]? =some y/\R β Z w x y)->RL β Z w l ys
 | [],ys,hl,_=>by simp only [RL];exact Lw.1 hl
 |x::xs,[],hl,_=>aI
 |x::xs,y::ys,hl,h=>by
  simp only [RL];refine ⟨y,ys,rfl,?_,RL.CO kW λi x' hx=>?_⟩
  ·obtain ⟨y',h1,h2⟩:=h 0 x AJ;simp at h1;subst h1;exact h2
  ·obtain ⟨y',h1,h2⟩:=h (i+1) x' yI;exact ⟨y',by simpa using h1,h2⟩
def AR.CO {n:Nat}:∀ {l:List LV},(∀(i:Nat) (x:LV),l[i]? =some x->okV n x)->AR n l
 | [],_=>trivial
 |x::xs,h=>by simp only [AR];exact ⟨h 0 x AJ,AR.CO λi x' hx=>h (i+1) x' yI⟩
inductive T (α:Type) where
 |ok (x:α)
 |br (b:Bool) (t e:T α)
 |req (p:Prop) (t:T α)
 |no
def T.rv {β:Type}(x:LV) (t:T β):T β:=.req (x=x) t
def T.rl {α β:Type}(l:List α) (t:T β):T β:=.req (0=0/\List.length l=List.length l) t
def T.bind {α β:Type}(k:α->T β):T α->T β
 | .ok x=>k x
 | .br b t e=> .br b (t.bind k) (e.bind k)
 | .req p t=> .req p (t.bind k)
 | .no=> .no
def T.all {α:Type}(K:α->Prop):T α->Prop
 | .ok x=>K x
 | .br b t e=>(b=true->t.all K)/\(b=false->e.all K)
 | .req p t=>p/\t.all K
 | .no=>False
def T.all_bind {α β:Type}{k:α->T β}{K:β->Prop}:∀ {t:T α},(t.bind k).all K↔t.all (λx=>(k x).all K)
 | .ok _=>Iff.rfl
 | .br b t e=>by simp only [T.bind,T.all];rw [T.all_bind,T.all_bind]
 | .req p t=>by simp only [T.bind,T.all];rw [T.all_bind]
 | .no=>Iff.rfl
def T.BT {α:Type}{K K':α->Prop}(h:∀x,K x->K' x):∀ {t:T α},t.all K->t.all K'
 | .ok _,hh=>h _ hh
 | .br b t e,hh=>⟨λhb=>T.BT h (hh.1 hb),λhb=>T.BT h (hh.2 hb)⟩
 | .req p t,hh=>⟨hh.1,T.BT h hh.2⟩
 | .no,hh=>hh
def Ij {α:Type}(P:Program):Sem α->Option α
 | .pure a=>some a
 | .program k=>Ij P (k P)
 | .mark _ k=>Ij P k
 |_=>none
def ax {α:Type}{P:Program}(w:World):∀ {s:Sem α}{a:α},Ij P s=some a->s.run P w=.ok a w
 | .pure _,_,h=>by simp only [Ij,Ad] at h;subst h;rfl
 | .program k,_,h=>by simp only [Ij] at h;exact ax w (s:=k P) h
 | .mark _ k,_,h=>by simp only [Ij] at h;exact ax w (s:=k) h
 | .load ..,_,h| .store ..,_,h| .new ..,_,h| .shape ..,_,h| .freeze ..,_,h| .frozen ..,_,h| .getObj ..,_,h| .setObj ..,_,h| .choose ..,_,h| .sys ..,_,h| .halt ..,_,h=>by simp [Ij] at h
inductive Ex where
 |normal
 |exit (n:Nat)
 |ret
inductive LS where
 |ready
 |busy
 |done (x:Ex)
inductive BK where
 |cl
 |vec (e:Ty) (l:List e.D)
 |mp (kd:IntKind) (ks:List Int) (vs:List LV)
 |Cc (ps:Array Tmp) (asg body:Code) (st:LS)
 |st (e:Ty) (l:List e.D)
 |dead
structure AB where
 c:List LV
 t:TypeId
 k:BK
 p:Bool
def AB.Dl (b:AB):Bool:=
 match b.k with
 | .cl=>true
 |_=>false
abbrev Av:=Nat->Option (Nat×(Nat->Value))
abbrev Specs:=FuncId->Option (List LV->T LV)
def pl:LV->Option Value
 | .v x=>some x
 | .bl b=>some (.bool b)
 | .ki k n=>some (.int k n)
 | .fn f []=>some (.func (.func f) #[] #[])
 |_=>none
def Ar:List LV->Option (List Value)
 | []=>some []
 |x::xs=>match pl x,Ar xs with
  |some y,some ys=>some (y::ys)
  |_,_=>none
def norm:LV->LV
 | .bl b=> .v (.bool b)
 | .ki k n=> .v (.int k n)
 |x=>x
def JT (l:List LV):LV:=match Ar l with|some ys=> .v (.agg ys.toArray) |none=> .agg (l.map norm)
def Qo (l:List LV):LV:=match Ar l with|some ys=> .v (.tuple ys.toArray) |none=> .AM (l.map norm)
def JY:Value->Bool
 | .agg _=>false
 | .tuple _=>false
 |_=>true
def WR:LV->Bool
 | .v x=>JY x
 | .agg _=>false
 | .AM _=>false
 | .junk=>false
 |_=>true
def CL:LV->Option (List LV)
 | .v x=>if x.cells.toList.all JY then some (x.cells.toList.map .v) else none
 | .agg l=>if l.all WR then some l else none
 | .AM _=>none
 | .junk=>none
 |x=>some [x]
def Gq (P:Program) (t:TypeId):Option Nat:=(P.info? t).map (·.size)
def IA (P:Program) (t:TypeId):Option Value:=(P.info? t).bind (·.zero)
def Rl (P:Program) (t:TypeId):Option Bool:=(P.underlying t).map fun| .struct _=>true| .array _ _=>true|_=>false
def AL (G:Av) (F:List LV):Operand->LV
 | .tmp t=>F.getD t .junk
 | .const x=>match x with| .bool b=> .bl b| .int k n=> .ki k n|y=> .v y
 | .global g=>match G g with|some (n,f)=> .xq n (λj=> .v (f j)) |none=> .junk
 | .func f=> .fn f []
def setAt (l:List LV) (off:Nat) (cs:List LV):List LV:=l.take off++cs++l.drop (off+cs.length)
def aAn (k:IntKind):LV->Option Int
 | .v (.int k' n)=>if k'=k then some n else none
 | .ki k' n=>if k'=k then some n else none
 |_=>none
def aAo:LV->Option Bool
 | .v (.bool b)=>some b
 | .bl b=>some b
 |_=>none
def aAm:LV->Option ByteArray
 | .v (.string s)=>some s
 |_=>none
def Ja:(a b:Ty)->Option (PLift (a=b))
 | .int k,.int k'=>if h:k=k' then some ⟨Va⟩ else none
 | .bool,.bool=>some ⟨rfl⟩
 | .str,.str=>some ⟨rfl⟩
 | .sl x,.sl y=>match Ja x y with
  |some ⟨h⟩=>some ⟨Va⟩
  |none=>none
 | .pair x y,.pair x' y'=>match Ja x x',Ja y y' with
  |some ⟨h⟩,some ⟨h'⟩=>some ⟨by rw [h,h']⟩
  |_,_=>none
 |_,_=>none
def KI {a b:Ty}(h:a=b) (l:List a.D):List b.D:=h▸l
def Mh (e:Ty):LV->Option (List e.D)
 | .xl e' l=>match Ja e' e with
  |some ⟨h⟩=>some (KI h l)
  |none=>none
 | .v (.slice none 0 0)=>some []
 |_=>none
def hd1 {α:Type}(f:LV->Option α):List LV->Option α
 | [x]=>f x
 |_=>none
def Je:(t:Ty)->List LV->Option t.D
 | .int k,l=>hd1 (aAn k) l
 | .bool,l=>hd1 aAo l
 | .str,l=>hd1 aAm l
 | .sl e,l=>hd1 (Mh e) l
 | .pair a b,l=>match Je a (l.take a.n),Je b (l.drop a.n) with
  |some x,some y=>some (x,y)
  |_,_=>none
def F7 (P:Program) (H:List AB) (t:TypeId) (x:LV):T LV:=
 match Rl P t,Gq P t with
 | some true,some n=>
  match x with
  | .own k off=>match H[k]? with
   |some b=>if b.Dl=true/\off+n<=b.c.length then .ok (JT ((b.c.drop off).take n)) else .no
   |none=> .no
  | .xq m f=>if n<=m then .ok (JT ((List.range n).map f)) else .no
  | .op k es i j=>match H[k]? with
   |some ⟨_,_,.vec e l,_⟩=>if e.n=es/\j+n<=es then .req (i<List.length l) (.ok (JT (((Bk e (l.getD i e.dflt)).drop j).take n))) else .no
   |_=> .no
  |_=> .no
 | some false,_=>
  match x with
  | .own k off=>match H[k]? with
   |some b=>if b.Dl=true then (match b.c[off]? with
    |some y=> .ok y
    |none=> .no) else .no
   |none=> .no
  | .xq m f=>if 0<m then .ok (f 0) else .no
  | .op k es i j=>match H[k]? with
   |some ⟨_,_,.vec e l,_⟩=>if e.n=es then .req (i<List.length l) (match (Bk e (l.getD i e.dflt))[j]? with
    |some y=> .ok y
    |none=> .no) else .no
   |_=> .no
  |_=> .no
 |_,_=> .no
def TF (P:Program) (H:List AB) (t:TypeId) (x y:LV):T (List AB):=
 match Gq P t,CL y with
 | some n,some cs=>match x with
  | .own k off=>match H[k]? with
   |some b=>if b.Dl=true/\b.p=false/\cs.length=n/\off+n<=b.c.length then .ok (H.set k ⟨setAt b.c off cs,b.t,b.k,b.p⟩) else .no
   |none=> .no
  | .op k es i j=>match H[k]? with
   |some ⟨_,bt,.vec e l,false⟩=>if e.n=es/\cs.length=n/\j+n<=es then .req (i<List.length l) (match Je e (setAt (Bk e (l.getD i e.dflt)) j cs) with
    |some d=> .ok (H.set k ⟨[],bt,.vec e (l.set i d),false⟩)
    |none=> .no) else .no
   |_=> .no
  |_=> .no
 |_,_=> .no
def Wa (P:Program) (s:TypeId) (x:LV) (i:Nat):T LV:=
 match P.underlying s with
 | some (.struct fs)=>match fs[i]? with
  | some f=>match Gq P f.type with
   |some (m+1)=>match x with
    | .own k off=> .ok (.own k (off+f.offset))
    | .op k es i j=> .ok (.op k es i (j+f.offset))
    | .xq n g=>if f.offset+(m+1)<=n then .ok (.xq (n-f.offset) (λj=>g (f.offset+j))) else .no
    |_=> .no
   |_=> .no
  |none=> .no
 |_=> .no
def aAr (P:Program) (t:TypeId) (l:List LV) (i:Nat):T LV:=
 match P.underlying t with
 | some (.struct fs)=>match fs[i]? with
  | some f=>match Rl P f.type,Gq P f.type with
   |some true,some n=>if f.offset+n<=l.length then .ok (JT ((l.drop f.offset).take n)) else .no
   |some false,_=>match l[f.offset]? with
    |some y=> .ok y
    |none=> .no
   |_,_=> .no
  |none=> .no
 |_=> .no
def vp:LV->Option (List LV)
 | .agg l=>some l
 | .v (.agg ys)=>some (ys.toList.map .v)
 |_=>none
def aAl (P:Program) (t:TypeId) (l:List LV) (i:LV):T LV:=
 match P.underlying t,i with
 |some (.array len e),.ki _ j=>match Rl P e,Gq P e,l[j.toNat]? with
  |some false,some 1,some y=>if 0<=j/\j<(len:Int) then .ok y else .no
  |_,_,_=> .no
 |_,_=> .no
def chain (n:Int) (g:Nat->LV):Nat->Nat->T LV
 |0,_=> .no
 |m+1,j=> .br (n==(j:Int)) (.ok (g j)) (chain n g m (j+1))
def Uu:LV->Bool
 | .ki _ _=>true
 |_=>false
def addN:Nat->Nat->Nat
 |0,n=>n
 |m+1,n=>m+1+n
def asa:∀(m n:Nat),addN m n=m+n
 |0,n=>by simp [addN]
 |m+1,n=>rfl
def TA (P:Program) (t:TypeId) (x:LV) (c:Bool) (i:LV):T LV:=
 match pl i with
 | some (.int _ n)=>match P.underlying t with
  | some (.array len e)=>match Gq P e with
   |some (m+1)=>match x with
    | .op k es i j=>if c then (if 0<=n/\n<len then .ok (.op k es i (j+n.toNat*(m+1))) else .no) else chain n (λq=> .op k es i (j+q*(m+1))) len 0
    | .own k off=>if c then (if 0<=n/\n<len then .ok (.own k (off+n.toNat*(m+1))) else .no) else chain n (λj=> .own k (off+j*(m+1))) len 0
    | .xq q g=>if len*(m+1)<=q then (if c then (if 0<=n/\n<len then .ok (.xq (m+1) (λj=>g (n.toNat*(m+1)+j))) else .no) else if len=3 then chain n (λi=> .xq (m+1) (λj=>g (i*(m+1)+j))) len 0 else .req (0<=n/\n<(len:Int)) (.ok (.xq (m+1) (λj=>g (n.toNat*(m+1)+j))))) else .no
    |_=> .no
   |_=> .no
  |some (.slice e)=>match Gq P e,x with
   |some (m+1),.xl e' l=>if e'.n=m+1 then .req (0<=n/\n<(List.length l:Int)) (.ok (.xq (m+1) (λj=>(Bk e' (gx l n)).getD j .junk))) else .no
   |some (m+1),.os k es off len=>if es=m+1 then .req (0<=n/\n<(len:Int)) (.ok (.op k es (addN off n.toNat) 0)) else .no
   |some (m+1),.oc k es off len cp=>if es=m+1 then (if c then (if 0<=n/\n<(len:Int) then .ok (.own k ((off+n.toNat)*(m+1))) else .no) else chain n (λj=> .own k ((off+j)*(m+1))) len 0) else .no
   |_,_=> .no
  |_=> .no
 |_=> .no
def KG (place:Nat->Option (Nat×Nat)) (cells:List LV):List (Nat×LV)->Option (List LV)
 | []=>some cells
 |(i,x)::rest=>match place i,CL x with
  |some (off,size),some cs=>if cs.length=size/\off+size<=cells.length then KG place (setAt cells off cs) rest else none
  |_,_=>none
def aON (P:Program) (t:TypeId):Option (Nat->Option (Nat×Nat)):=
 match P.underlying t with
 |some (.struct fields)=>(fields.toList.mapM (λf=>(P.info? f.type).map λi=>(f.offset,i.size))).map λps=>λi=>ps.toArray[i]?
 |some (.array _ e)=>(P.info? e).map λie=>λi=>some (i*ie.size,ie.size)
 |_=>none
def NK (P:Program) (t:TypeId) (parts:List (Nat×LV)):T LV:=
 match IA P t,aON P t with
 |some z,some pf=>match KG pf (z.cells.toList.map .v) parts with
  |some cs=> .ok (if parts.any (λq=>Uu q.2) then .agg cs else JT cs)
  |none=> .no
 |_,_=> .no
def Hb (G:Av) (F:List LV):Operand->LV
 | .const x=>norm (AL G F (.const x))
 |o=>AL G F o
def Bz (H:List AB):Nat->LV->LV
 |0,_=> .junk
 |d+1,.own k off=>match H[k]? with
  |some b=>if b.Dl then .xq (b.c.length-off) (λj=>Bz H d (b.c.getD (off+j) .junk)) else .junk
  |none=> .junk
 |_+1,.os k es off n=>match H[k]? with
  |some ⟨_,_,.vec e l,_⟩=>if e.n=es then .xl e ((l.drop off).take n) else .junk
  |_=> .junk
 |_+1,.op k es i j=>match H[k]? with
  |some ⟨_,_,.vec e l,_⟩=>if e.n=es then .xq (es-j) (λq=>(Bk e (l.getD i e.dflt)).getD (j+q) .junk) else .junk
  |_=> .junk
 |d+1,.om k=>match H[k]? with
  |some ⟨_,_,.mp kd ks vs,_⟩=> .mp kd ks (vs.map (Bz H d))
  |_=> .junk
 |_+1,.v x=> .v x
 |_+1,.bl x=> .v (.bool x)
 |_+1,.ki k n=> .v (.int k n)
 |d+1,.agg l=> .agg (l.map (Bz H d))
 |d+1,.AM l=> .AM (l.map (Bz H d))
 |d+1,.fn f l=> .fn f (l.map (Bz H d))
 |d+1,.fb f l=> .fb f (l.map (Bz H d))
 |_+1,.xq n f=> .xq n f
 |_+1,.xl e l=> .xl e l
 |d+1,.mp kd ks vs=> .mp kd ks (vs.map (Bz H d))
 |_+1,.oc ..=> .junk
 |_+1,.CN _=> .junk
 |_+1,.junk=> .junk
def Fz {α:Type}(g:α->T Unit):List α->T Unit
 | []=> .ok ()
 |x::xs=>(g x).bind λ_=>Fz g xs
def EA (H:List AB):Nat->LV->T Unit
 |0,_=> .ok ()
 |d+1,.own k _=>match H[k]? with
  |some b=>Fz (EA H d) b.c
  |none=> .ok ()
 |_+1,.os k _ off n=>match H[k]? with
  |some ⟨_,_,.vec _ l,_⟩=> .req (off+n<=List.length l) (.ok ())
  |_=> .ok ()
 |_+1,.op k _ i _=>match H[k]? with
  |some ⟨_,_,.vec _ l,_⟩=> .req (i<List.length l) (.ok ())
  |_=> .ok ()
 |d+1,.om k=>match H[k]? with
  |some ⟨_,_,.mp _ _ vs,_⟩=>Fz (EA H d) vs
  |_=> .ok ()
 |d+1,.agg l=>Fz (EA H d) l
 |d+1,.AM l=>Fz (EA H d) l
 |d+1,.fn _ l=>Fz (EA H d) l
 |d+1,.fb _ l=>Fz (EA H d) l
 |d+1,.mp _ _ l=>Fz (EA H d) l
 |_+1,_=> .ok ()
mutual
def noOwn:LV->Bool
 | .own _ _=>false
 | .os ..=>false
 | .op ..=>false
 | .om _=>false
 | .oc ..=>false
 | .CN _=>false
 | .agg l=>noOwnL l
 | .AM l=>noOwnL l
 | .fn _ l=>noOwnL l
 | .fb _ l=>noOwnL l
 | .mp _ _ l=>noOwnL l
 |_=>true
def noOwnL:List LV->Bool
 | []=>true
 |x::xs=>noOwn x&&noOwnL xs
end
/-Which own blocks a value names. -/
mutual
def owns:LV->List Nat
 | .own k _=>[k]
 | .os k _ _ _=>[k]
 | .op k _ _ _=>[k]
 | .om k=>[k]
 | .oc k _ _ _ _=>[k]
 | .CN k=>[k]
 | .agg l=>ownsL l
 | .AM l=>ownsL l
 | .fn _ l=>ownsL l
 | .fb _ l=>ownsL l
 | .mp _ _ l=>ownsL l
 |_=>[]
def ownsL:List LV->List Nat
 | []=>[]
 |x::xs=>owns x++ownsL xs
end
def AB.owns (b:AB):List Nat:=ownsL b.c++(match b.k with| .mp _ _ vs=>ownsL vs|_=>[])
def reach (H:List AB):Nat->List Nat->List Nat->List Nat
 |0,_,acc=>acc
 |_+1,[],acc=>acc
 |d+1,k::ks,acc=>if acc.contains k then reach H d ks acc else reach H d (ks++(match H[k]? with|some b=>b.owns|none=>[])) (acc++[k])
def K0 (H:List AB) (ks:List Nat) (l:List LV):Bool:=
 (ownsL l).all ks.contains&&ks.all (λk=>match H[k]? with|some b=>b.owns.all ks.contains|none=>false)
def FR (ks:List Nat):Nat->List AB->List AB
 |_,[]=>[]
 |k,b::bs=>(if ks.contains k then ⟨b.c,b.t,b.k,true⟩ else b)::FR ks (k+1) bs
def Rk (x:LV):Bool:=(pl x).isSome
def Q9:T LV->T LV
 | .ok x=>if Rk x then .ok x else .no
 | .br b t e=> .br b (Q9 t) (Q9 e)
 | .req p t=> .req p (Q9 t)
 | .no=> .no
def fV (c a b:LV):T LV:=
 match c with
 | .bl true=> .ok a
 | .bl false=> .ok b
 | .v (.bool g)=>match norm a,norm b with
  | .v (.int k n),.v (.int k' m)=>if k=k' then .ok (.v (.int k (if g then n else m))) else .no
  | .v (.bool p),.v (.bool q)=> .ok (.v (.bool (if g then p else q)))
  |_,_=> .br g (.ok a) (.ok b)
 |_=> .no
def Um:List Bool->Bool
 | []=>true
 | [p]=>p
 |p::ps=>p&&Um ps
mutual
def eqV (P:Program):Nat->TypeId->Value->Value->Option Bool
 |0,_,_,_=>none
 |d+1,t,x,y=>match P.underlying t,x,y with
  |some (.int _),.int k a,.int k' b=>if k=k' then some (a==b) else none
  |some .bool,.bool a,.bool b=>some (a==b)
  |some .string,.string a,.string b=>some (a==b)
  |some (.struct fs),.agg xs,.agg ys=>if P.stoodInHeld t then none else (eqFs P d xs ys fs.toList).map Um
  |_,_,_=>none
def eqFs (P:Program):Nat->Array Value->Array Value->List Field->Option (List Bool)
 |_,_,_,[]=>some []
 |0,_,_,_::_=>none
 | d+1,xs,ys,f::fs=>if f.name= "_" then none else match Ij P (part f.type xs f.offset),Ij P (part f.type ys f.offset) with
  |some a,some b=>match eqV P d f.type a b,eqFs P d xs ys fs with
   |some p,some ps=>some (p::ps)
   |_,_=>none
  |_,_=>none
end
def aQW:BinOp->Option Bool
 | .eql=>some false
 | .neq=>some true
 |_=>none
def QD (P:Program) (o:Op) (e:Operand->Value):Option (Option Value):=
 match o with
 | .binOp op t x y _=>match aQW op with
  | some neg=>match e x,e y with
   | .agg xs,.agg ys=>some (match Ij P (eqGuard op t x y (.agg xs) (.agg ys)),eqV P 100 t (.agg xs) (.agg ys) with
    |some _,some b=>some (.bool (match neg with|true=>!b|false=>b))
    |_,_=>none)
   |_,_=>none
  |none=>none
 |_=>none
def O1 (P:Program) (o:Oper) (e:Operand->Value):Option Value:=
 match QD P o.op e with
 |some r=>r
 |none=>match Ij P (execOp e o) with
  |some (.value y)=>some y
  |_=>none
def aO:LV->Bool
 | .ki _ _=>true
 | .bl _=>true
 | .v (.slice none _ _)=>true
 |_=>false
def kn:Value->LV
 | .int k n=> .ki k n
 | .bool b=> .bl b
 |y=> .v y
def DY (P:Program) (G:Av) (F:List LV) (o:Oper):T LV:=
 if o.op.operands.toList.all (λx=>Rk (AL G F x)) then
  match O1 P o (λx=>(pl (AL G F x)).getD undef) with
  |some y=> .ok (if o.op.operands.toList.all (λx=>aO (AL G F x)) then kn y else .v y)
  |none=> .no
 else .no
def Uf (r:TypeId->Option Ty):List TypeId->Option Ty
 | []=>none
 | [t]=>r t
 |t::ts=>match r t,Uf r ts with
  |some a,some b=>some (.pair a b)
  |_,_=>none
def IE (P:Program):Nat->TypeId->Option Ty
 |0,_=>none
 |m+1,t=>match P.underlying t with
  |some (.int k)=>some (.int k)
  |some .bool=>some .bool
  |some .string=>some .str
  |some (.struct fs)=>Uf (IE P m) (fs.toList.map (·.type))
  |some (.array n e)=>Uf (IE P m) (List.replicate n e)
  |some (.slice e)=>(IE P m e).map .sl
  |_=>none
def aR (e:Ty):Nat->List LV->Option (List e.D)
 |0,_=>some []
 |n+1,cs=>match Je e (cs.take e.n),aR e n (cs.drop e.n) with
  |some d,some r=>some (d::r)
  |_,_=>none
def LN (P:Program) (t:TypeId) (len:Nat) (parts:List (Nat×LV)):T LV:=
 match P.underlying t with
 |some (.slice e)=>match IE P 8 e,Gq P e,IA P e with
  | some ty,some m,some z=>if ty.n=m/\z.cells.size=m/\0<len*m/\len*m<=2^24 then
    (match KG (λi=>some (i*m,m)) ((List.range (len*m)).map (λi=> .v (z.cells[i%z.cells.size]!))) parts with
    |some cs=>match aR ty len cs with
     |some l=> .ok (.xl ty l)
     |none=> .no
    |none=> .no) else .no
  |_,_,_=> .no
 |_=> .no
def cD (P:Program) (t:TypeId):Bool:=
 match P.underlying t with
 |some (.slice e)=>(IE P 8 e).isSome
 |_=>false
def lG (P:Program) (H:List AB) (t:TypeId) (len:Nat) (parts:List (Nat×LV)):T (LV×List AB):=
 match P.underlying t with
 |some (.slice e)=>match Gq P e,IA P e with
  | some m,some z=>if z.cells.size=m/\0<len*m/\len*m<=2^24 then
    (match KG (λi=>some (i*m,m)) ((List.range (len*m)).map (λi=> .v (z.cells[i%z.cells.size]!))) parts with
    |some cs=> .ok (.oc H.length m 0 len len,H++[⟨cs,e,.cl,false⟩])
    |none=> .no) else .no
  |_,_=> .no
 |_=> .no
def lL (P:Program) (H:List AB) (t:TypeId) (len:Nat) (parts:List (Nat×LV)):T (LV×List AB):=
 if K0 H (reach H 64 (ownsL (parts.map (·.2))) []) (parts.map (·.2)) then
  ((Fz (EA H 6) (parts.map (·.2))).bind λ_=>LN P t len (parts.map λq=>(q.1,Bz H 6 q.2))).bind λy=> .ok (y,FR (reach H 64 (ownsL (parts.map (·.2))) []) 0 H)
 else .no
def F6 (H:List AB) (e:Ty):LV->T (List e.D)
 | .os k es off n=>match H[k]? with
  |some ⟨_,_,.vec e' l,_⟩=>if e'.n=es then (match Ja e' e with
   |some ⟨h⟩=> .req (off+n<=List.length l) (.ok (KI h ((l.drop off).take n)))
   |none=> .no) else .no
  |_=> .no
 |x=>match Mh e x with
  |some l=> .ok l
  |none=> .no
def aQz (P:Program) (t:TypeId):Option Nat:=(P.info? t).map (·.bytes)
def PF (P:Program) (t:TypeId):Option (TypeId×Ty×Nat×Nat):=
 match P.underlying t with
 |some (.slice e)=>match IE P 8 e,Gq P e,aQz P e with
  |some ty,some m,some Ep=>if ty.n=m/\0<m then some (e,ty,m,Ep) else none
  |_,_,_=>none
 |_=>none
def aM (P:Program) (H:List AB) (t:TypeId) (len:Nat) (parts:List (Nat×LV)):T (LV×List AB):=
 if K0 H (reach H 64 (ownsL (parts.map (·.2))) []) (parts.map (·.2)) then
  ((Fz (EA H 6) (parts.map (·.2))).bind λ_=>LN P t len (parts.map λq=>(q.1,Bz H 6 q.2))).bind λy=>match P.underlying t,y with
   |some (.slice e),.xl ty l=> .ok (.os H.length ty.n 0 len,FR (reach H 64 (ownsL (parts.map (·.2))) []) 0 H++[⟨[],e,.vec ty l,false⟩])
   |_,_=> .no
 else .no
def aJ1 (Γ:Specs) (t:TypeId):Bool:=(Γ (1000000+t)).isSome
def Te (P:Program) (H:List AB) (t:TypeId) (n c:LV):T (LV×List AB):=
 match PF P t,pl n,pl c with
 | some (e,ty,m,Ep),some (.int .i64 n),some (.int .i64 c)=>match IA P e with
  |some z=>match Je ty (z.cells.toList.map .v) with
   |some d=>if z.cells.size=m then .req (0<=n/\n<=c/\Ep*c<=2^48/\c<2^63) (.ok (.os H.length m 0 n.toNat,H++[⟨[],e,.vec ty (List.replicate n.toNat d),false⟩])) else .no
   |none=> .no
  |none=> .no
 |_,_,_=> .no
def Wc (P:Program) (H:List AB) (t:TypeId):T (LV×List AB):=
 match PF P t with
 |some (e,ty,m,_)=> .ok (.os H.length m 0 0,H++[⟨[],e,.vec ty [],false⟩])
 |none=> .no
def L3 (P:Program) (H:List AB) (t tx:TypeId) (x y:LV):T (LV×List AB):=
 match PF P t with
 | some (e,ty,m,Ep)=>match P.underlying tx,IA P e with
  | some (.slice _),some z=>if z.cells.size=m then (F6 H ty y).bind (λq=>match x with
    | .v (.slice none 0 0)=> .req ((List.length q:Int)*Ep<=2^47/\(List.length q:Int)<2^62) (.ok (.os H.length m 0 (List.length q),H++[⟨[],e,.vec ty q,false⟩]))
    | .os k es off n=>match H[k]? with
     |some ⟨_,bt,.vec e' l,false⟩=>match Ja e' ty with
      | some ⟨h⟩=>if es=m/\bt=e then .req (off+n=List.length l/\((n+List.length q:Nat):Int)*Ep<=2^47/\((n+List.length q:Nat):Int)<2^62)
        (.ok (.os H.length m 0 (n+List.length q),H.set k ⟨[],e,.dead,false⟩++[⟨[],e,.vec ty (KI h (l.drop off)++q),false⟩])) else .no
      |none=> .no
     |_=> .no
    |_=> .no) else .no
  |_,_=> .no
 |none=> .no
def B7 {α:Type}(q l:List α):List α:=q++l.drop q.length
def XL (P:Program) (H:List AB) (t tx:TypeId) (x y:LV):T (LV×List AB):=
 match PF P t,P.underlying tx with
 | some (_,ty,m,_),some (.slice _)=>match x with
  | .os k es 0 n=>match H[k]? with
   |some ⟨c,bt,.vec e' l,false⟩=>match Ja e' ty with
    |some ⟨h⟩=>if es=m then (F6 H ty y).bind λq=> .req (n=List.length l/\List.length q<=n) (.ok (.v (.int .i64 (List.length q:Int)),H.set k ⟨c,bt,.vec ty (B7 q (KI h l)),false⟩)) else .no
    |none=> .no
   |_=> .no
  |_=> .no
 |_,_=> .no
def qo (P:Program) (t:TypeId) (x:LV) (lo hi:Option LV):T LV:=
 match P.underlying t with
 | some (.slice e)=>match Gq P e with
  | some (m+1)=>
   let b (o:Option LV) (d:Int):Option Int:=match o with
    |none=>some d
    |some y=>match pl y with
     |some (.int _ n)=>some n
     |_=>none
   match x with
   | .xl ty l=>match b lo 0,b hi (List.length l:Int) with
    |some i,some j=>if ty.n=m+1 then .req (0<=i/\i<=j/\j<=(List.length l:Int)) (.ok (.xl ty ((l.drop i.toNat).take (j.toNat-i.toNat)))) else .no
    |_,_=> .no
   | .os k es off n=>match b lo 0,b hi (n:Int) with
    |some i,some j=>if es=m+1 then .req (0<=i/\i<=j/\j<=(n:Int)) (.ok (.os k es (off+i.toNat) (j.toNat-i.toNat))) else .no
    |_,_=> .no
   |_=> .no
  |_=> .no
 |_=> .no
def pV (P:Program) (t:TypeId) (x:LV) (lo:Option LV) (hi mx:LV):T LV:=
 match P.underlying t with
 | some (.slice e)=>match Gq P e with
  | some (m+1)=>match x with
   | .xl ty l=>match (match lo with|none=>some 0|some y=>match pl y with|some (.int _ n)=>some n|_=>none:Option Int),pl hi,pl mx with
    |some i,some (.int _ j),some (.int _ q)=>if ty.n=m+1 then .req (0<=i/\i<=j/\j<=(List.length l:Int)/\q=j) (.ok (.xl ty ((l.drop i.toNat).take (j.toNat-i.toNat)))) else .no
    |_,_,_=> .no
   |_=> .no
  |_=> .no
 |_=> .no
def bW (kd:IntKind) (n:Int) (z:Value):List Int->List LV->T LV
 |k::ks,v::vs=> .br (n==k) (.ok v) (bW kd n z ks vs)
 |_,_=> .ok (.v z)
def aAg:(e:Ty)->e.D->Value
 | .int k,n=> .int k n
 | .str,s=> .string s
 | .bool,b=> .bool b
 | .sl _,_=>undef
 | .pair _ _,_=>undef
def Nt:(e:Ty)->Value->Option e.D
 | .int k,v=>match v with
  | .int k' n=>if k'=k then some n else none
  |_=>none
 | .str,v=>match v with
  | .string s=>some s
  |_=>none
 |_,_=>none
def lK:(e:Ty)->e.D->List e.D->Bool
 | .int _,x,l=>List.contains (α:=Int) l x
 | .str,x,l=>List.contains (α:=ByteArray) l x
 |_,_,_=>false
def ZE (P:Program) (t:TypeId):Option Ty:=
 match P.underlying t with
 |some (.map kt et)=>match P.underlying et,P.underlying kt,IA P et with
  |some .bool,some (.int k),some (.bool false)=>some (.int k)
  |some .bool,some .string,some (.bool false)=>some .str
  |_,_,_=>none
 |_=>none
def abD (P:Program) (t:TypeId) (e:Ty) (l:List e.D) (i:LV):T LV:=
 match ZE P t,pl i with
 |some e',some v=>match Ja e' e,Nt e v with
  |some _,some d=> .ok (.v (.bool (lK e d l)))
  |_,_=> .no
 |_,_=> .no
def Tf (P:Program) (H:List AB) (t:TypeId) (x i:LV):T LV:=
 match P.underlying t with
 | some (.map kt et)=>match P.underlying kt,IA P et,pl i with
  | some (.int kd),some z,some (.int kd' n)=>if kd'=kd/\JY z=true then (match x with
   | .mp kd2 ks vs=>if kd2=kd/\ks.length=vs.length then bW kd n z ks vs else .no
   | .om k=>match H[k]? with
    |some ⟨_,_,.mp kd2 ks vs,_⟩=>if kd2=kd/\ks.length=vs.length then bW kd n z ks vs else .no
    |_=> .no
   |_=> .no) else .no
  |_,_,_=> .no
 |_=> .no
def bB (kd:IntKind) (n:Int) (z:Value):List Int->List LV->T LV
 |k::ks,v::vs=> .br (n==k) (.ok (.AM [norm v,.bl true])) (bB kd n z ks vs)
 |_,_=> .ok (.AM [.v z,.bl false])
def XA (P:Program) (H:List AB) (t:TypeId) (x i:LV):T LV:=
 match P.underlying t with
 | some (.map kt et)=>match P.underlying kt,IA P et,pl i with
  | some (.int kd),some z,some (.int kd' n)=>if kd'=kd/\JY z=true then (match x with
   | .mp kd2 ks vs=>if kd2=kd/\ks.length=vs.length then bB kd n z ks vs else .no
   | .om k=>match H[k]? with
    |some ⟨_,_,.mp kd2 ks vs,_⟩=>if kd2=kd/\ks.length=vs.length then bB kd n z ks vs else .no
    |_=> .no
   |_=> .no) else .no
  |_,_,_=> .no
 |_=> .no
def XX (P:Program) (H:List AB) (t:TypeId) (x i:LV):T LV:=
 match x with
 | .om k=>match H[k]? with
  |some ⟨_,_,.st e l,_⟩=>abD P t e l i
  |_=>Tf P H t x i
 |_=>Tf P H t x i
def Uw (P:Program) (H:List AB) (t:TypeId) (x i y:LV):T (List AB):=
 match P.underlying t with
 | some (.map kt _)=>match P.underlying kt,pl i,x with
  |some (.int kd),some (.int kd' n),.om k=>match H[k]? with
   |some ⟨_,bt,.mp kd2 ks vs,false⟩=>if kd'=kd/\kd2=kd/\ks.length=vs.length/\ks.contains n=false then .ok (H.set k ⟨[],bt,.mp kd (ks++[n]) (vs++[y]),false⟩) else .no
   |_=> .no
  |_,_,_=> .no
 |_=> .no
def insL (P:Program) (H:List AB) (t:TypeId) (x i y:LV):T (List AB):=
 match x with
 | .om k=>match H[k]? with
  | some ⟨_,bt,.st e l,false⟩=>match ZE P t,pl i,y with
   |some e',some v,.bl true=>match Ja e' e,Nt e v with
    |some _,some d=> .req (lK e d l=false) (.ok (H.set k ⟨[],bt,.st e (l++[d]),false⟩))
    |_,_=> .no
   |_,_,_=> .no
  |_=>Uw P H t x i y
 |_=>Uw P H t x i y
def kindOf (P:Program) (t:TypeId):Option IntKind:=
 match P.underlying t with
 |some (.map kt _)=>match P.underlying kt with
  |some (.int kd)=>some kd
  |_=>none
 |_=>none
def L1 (P:Program):Nat->TypeId->Bool
 |0,_=>false
 |m+1,t=>match P.underlying t with
  |some (.int _) |some .bool|some .string=>true
  |some (.struct fs)=>fs.toList.all (λf=>L1 P m f.type)
  |some (.array _ e)=>L1 P m e
  |some (.tuple ts)=>ts.toList.all (L1 P m)
  |_=>false
def Jf (s:ByteArray) (n:Int):Int:=(((s[n.toNat]?).getD 0).toNat:Int)
def L9 (P:Program) (Γ:Specs) (H:List AB) (o:Oper) (g:FuncId) (l:List LV):T (LV×List AB):=
 match P.funcs[g]? with
 | some fn=>if fn.body.isSome&&!(fn.name== "runtime.NumGoroutine") then
   match Γ g with
   |some S=>
    if noOwnL l then (S l).bind λy=> .ok (y,H)
    else if L1 P 8 o.type then ((Fz (EA H 6) l).bind λ_=>Q9 (S (l.map (Bz H 6)))).bind λy=> .ok (y,H)
    else if K0 H (reach H 64 (ownsL l) []) l then ((Fz (EA H 6) l).bind λ_=>S (l.map (Bz H 6))).bind λy=> .ok (y,FR (reach H 64 (ownsL l) []) 0 H) else .no
   |none=> .no
  else .no
 |none=> .no
def fO (P:Program) (x:LV) (name:String):Option (FuncId×Value):=
 match pl x with
 |some (.iface t v)=>Ij P (method (P.types.size+Made.depth) t v name)
 |_=>none
def Ap (P:Program) (G:Av) (Γ:Specs) (F:List LV) (H:List AB) (o:Oper):T (LV×List AB):=
 match o.op with
 | .select _ _=> .no
 | .move x=> .ok (AL G F x,H)
 | .assign x=> .ok (AL G F x,H)
 | .pick c a b=>(fV (AL G F c) (AL G F a) (AL G F b)).bind λy=> .ok (y,H)
 | .alloc t=>match IA P t with
  |some z=>match CL (.v z) with
   |some cs=> .ok (.own H.length 0,H++[⟨cs,t,.cl,false⟩])
   |none=> .no
  |none=> .no
 | .box t x=>match CL (AL G F x) with
  |some cs=> .ok (.own H.length 0,H++[⟨cs,t,.cl,false⟩])
  |none=> .no
 | .load t x=>(F7 P H t (AL G F x)).bind λy=> .ok (y,H)
 | .store t x y=>(TF P H t (AL G F x) (AL G F y)).bind λH'=> .ok (.v undef,H')
 | .fieldAddr s x i=>(Wa P s (AL G F x) i).bind λy=> .ok (y,H)
 | .indexAddr t x i=>(TA P t (AL G F x) (Uu (AL G F i)) (AL G F i)).bind λy=> .ok (y,H)
 | .build t parts=>(NK P t (parts.toList.map λq=>(q.1,Hb G F q.2))).bind λy=> .ok (y,H)
 | .buildSlice t len parts=>if len=0 then (if parts.toList.isEmpty then Wc P H t else .no) else if cD P t then (if aJ1 Γ t then aM P H t len (parts.toList.map λq=>(q.1,AL G F q.2)) else if noOwnL ((parts.toList.map λq=>(q.1,AL G F q.2)).map (·.2)) then (LN P t len (parts.toList.map λq=>(q.1,AL G F q.2))).bind λy=> .ok (y,H) else lL P H t len (parts.toList.map λq=>(q.1,AL G F q.2))) else lG P H t len (parts.toList.map λq=>(q.1,AL G F q.2))
 | .makeSlice t n c=>Te P H t (AL G F n) (AL G F c)
 | .slice t x lo hi none=>match AL G F x with
  | .v _=>(DY P G F o).bind λy=> .ok (y,H)
  |_=>(qo P t (AL G F x) (lo.map (AL G F)) (hi.map (AL G F))).bind λy=> .ok (y,H)
 | .slice t x lo (some hi) (some mx)=>match AL G F x with
  | .v _=>(DY P G F o).bind λy=> .ok (y,H)
  |_=>(pV P t (AL G F x) (lo.map (AL G F)) (AL G F hi) (AL G F mx)).bind λy=> .ok (y,H)
 | .makeMap t none=>match ZE P t with
  |some e=> .ok (.om H.length,H++[⟨[],t,.st e [],false⟩])
  |none=>match kindOf P t with
   |some kd=> .ok (.om H.length,H++[⟨[],t,.mp kd [] [],false⟩])
   |none=> .no
 | .insert t m i x=>(insL P H t (AL G F m) (AL G F i) (AL G F x)).bind λH'=> .ok (.v undef,H')
 | .mapUpdate t m i x=>(insL P H t (AL G F m) (AL G F i) (AL G F x)).bind λH'=> .ok (.v undef,H')
 | .lookup t x i false=>(XX P H t (AL G F x) (AL G F i)).bind λy=> .ok (y,H)
 | .lookup t x i true=>match AL G F x with
  | .v _=>(DY P G F o).bind λy=> .ok (y,H)
  |_=>(XA P H t (AL G F x) (AL G F i)).bind λy=> .ok (y,H)
 | .extract x i=>match AL G F x with
  | .AM l=>match l[i]? with
   |some y=> .ok (y,H)
   |none=> .no
  |_=>(DY P G F o).bind λy=> .ok (y,H)
 | .field t x i=>match AL G F x with
  | .agg l=>(aAr P t l i).bind λy=> .ok (y,H)
  |_=>(DY P G F o).bind λy=> .ok (y,H)
 | .makeFunc (.func f) first cap=>if first.toList.isEmpty then .ok (.fn f (cap.toList.map (AL G F)),H) else if cap.toList.isEmpty then .ok (.fb f (first.toList.map (AL G F)),H) else .no
 | .nilCheck x=>match AL G F x with
  | .own k off=> .ok (.own k off,H)
  | .op k es i j=> .ok (.op k es i j,H)
  | .xq n f=> .ok (.xq n f,H)
  | .fn f l=> .ok (.fn f l,H)
  | .fb f l=> .ok (.fb f l,H)
  |_=>(DY P G F o).bind λy=> .ok (y,H)
 | .binOp .quo t x y _=>match pl (AL G F x),pl (AL G F y) with
  |some (.int k n),some (.int k' m)=>if k=k' then .req (m≠0) (.ok (.v (.int k (k.wrap (n.tdiv m))),H)) else .no
  |_,_=> .no
 | .binOp .rem t x y _=>match pl (AL G F x),pl (AL G F y) with
  |some (.int k n),some (.int k' m)=>if k=k' then .req (m≠0) (.ok (.v (.int k (n.tmod m)),H)) else .no
  |_,_=> .no
 | .binOp .shl t x y _=>if Uu (AL G F y) then (DY P G F o).bind λy=> .ok (y,H) else match pl (AL G F x),pl (AL G F y) with
  |some (.int k n),some (.int _ m)=> .req (0<=m) (.ok (.v (.int k (k.wrap (n*2^(min m.toNat k.bits)))),H))
  |_,_=> .no
 | .binOp .shr t x y _=>if Uu (AL G F y) then (DY P G F o).bind λy=> .ok (y,H) else match pl (AL G F x),pl (AL G F y) with
  |some (.int k n),some (.int _ m)=> .req (0<=m) (.ok (.v (.int k (n.fdiv (2^(min m.toNat k.bits)))),H))
  |_,_=> .no
 | .index t x i=>match vp (AL G F x) with
  |some l=>(aAl P t l (AL G F i)).bind λy=> .ok (y,H)
  |none=>match P.underlying t,pl (AL G F x),pl (AL G F i) with
   |some .string,some (.string s),some (.int _ n)=> .req (0<=n/\n<(s.size:Int)) (.ok (.v (.int .u8 (Jf s n)),H))
   |_,_,_=> .no
 | .call {callee:=.value f,args,..}=>match AL G F f with
  | .fn g cap=>L9 P Γ H o g (args.toList.map (λx=>norm (AL G F x))++cap)
  | .fb g fs=>L9 P Γ H o g (fs++args.toList.map (λx=>norm (AL G F x)))
  |_=> .no
 | .call {callee:=.invoke r name,args,..}=>match fO P (AL G F r) name with
  |some (g,rv)=>L9 P Γ H o g (.v rv::args.toList.map (λx=>norm (AL G F x)))
  |none=> .no
 | .call {callee:=.builtin .append,args,argTypes}=>match args.toList.map (AL G F),argTypes.toList with
  | [x,y],[t,tx]=>L3 P H t tx x y
  |_,_=> .no
 | .call {callee:=.builtin .copy,args,argTypes}=>match args.toList.map (AL G F),argTypes.toList with
  | [x,y],[t,tx]=>XL P H t tx x y
  |_,_=> .no
 | .call {callee:=.builtin .len,args,argTypes}=>match args.toList.map (AL G F),(argTypes[0]?).bind P.underlying with
  | [.os _ _ _ n],some (.slice _)=> .ok (.v (.int .i64 n),H)
  | [.xl _ l],some (.slice _)=> .ok (.v (.int .i64 (List.length l:Int)),H)
  | [.oc _ _ _ n _],some (.slice _)=> .ok (.ki .i64 n,H)
  |_,_=>(DY P G F o).bind λy=> .ok (y,H)
 |_=>(DY P G F o).bind λy=> .ok (y,H)
def Al (F:List LV):Option Tmp->LV->List LV
 |some d,x=>F.set d x
 |none,_=>F
structure Hand where
 k:FuncId->List LV->List AB->T (LV×List AB)
 y:Nat->List LV->List AB->T (LV×List AB)
def Fh:Hand:=⟨λ_ _ _=> .no,λ_ _ _=> .no⟩
def vB (G:Av) (F:List LV) (o:Oper):Option (Nat×List LV):=
 match o.op with
 | .call {callee:=.value f,args,..}=>match AL G F f with
  | .CN k=>some (k,args.toList.map (λx=>norm (AL G F x)))
  |_=>none
 |_=>none
def callOf (G:Av) (F:List LV) (o:Oper):Option (FuncId×List LV):=
 match o.op with
 | .call {callee:=.value f,args,..}=>match AL G F f with
  | .fn g cap=>some (g,args.toList.map (λx=>norm (AL G F x))++cap)
  | .fb g fs=>some (g,fs++args.toList.map (λx=>norm (AL G F x)))
  | .v (.func (.func g) ⟨[]⟩ ⟨[]⟩)=>some (g,args.toList.map (λx=>norm (AL G F x)))
  |_=>none
 |_=>none
def Jl (P:Program) (G:Av) (Γ:Specs) (K:Hand) (F:List LV) (H:List AB) (o:Oper):T (LV×List AB):=
 match callOf G F o with
 | some (g,l)=>match Γ g with
  |some _=>Ap P G Γ F H o
  |none=>match P.funcs[g]? with
   |some fn=>if fn.body.isSome&&!(fn.name== "runtime.NumGoroutine") then K.k g l H else .no
   |none=> .no
 |none=>match vB G F o with
  |some (k,l)=>K.y k l H
  |none=>Ap P G Γ F H o
def fF (ty:Ty):List LV->Option (List (List ty.D))
 | []=>some []
 | x::xs=>match x with
  | .xl e l=>match Ja e ty,fF ty xs with
   |some ⟨h⟩,some r=>some (KI h l::r)
   |_,_=>none
  |_=>none
def aAi (P:Program) (G:Av) (F:List LV) (H:List AB) (o o2:Oper):Option (Int×Nat×LV):=
 if o.guard.isNone&&o2.guard.isNone then
  match o.op,o.dst,o2.op with
  | .indexAddr t x i,some d,.load t2 (.tmp d2)=>
   if d2 =d/\d<F.length/\Rl P t2=some false then
    match P.underlying t,AL G F x,AL G F i with
    | some (.array len e),.own k off,.v (.int _ n)=>
     if Gq P e=some 1 then
      match H[k]? with
      | some b=>
       if b.Dl=true/\off+len<=b.c.length then
        match (b.c.drop off).take len with
        | .xl ty l::rest=>match fF ty (.xl ty l::rest) with
         |some ls=>some (n,len,.xl ty (ls.getD n.toNat []))
         |none=>none
        |_=>none
       else none
      |none=>none
     else none
    |_,_,_=>none
   else none
  |_,_,_=>none
 else none
def IF (P:Program) (G:Av) (Γ:Specs) (K:Hand) (ops:Array Oper):List Oper->List LV->List AB->T (List LV×List AB)
 | [],F,H=> .ok (F,H)
 | o::os,F,H=>
  let go (F:List LV):T (List LV×List AB):=(Jl P G Γ K F H o).bind λq=>IF P G Γ K ops os (Al F o.dst q.1) q.2
  let pass (F:List LV):T (List LV×List AB):=IF P G Γ K ops os (Al F o.dst (.v undef)) H
  match o.guard with
  | none=>match os with
   | []=>go F
   |o2::os2=>match aAi P G F H o o2 with
    |some (n,len,y)=> .req (0<=n/\n<(len:Int)) (IF P G Γ K ops os2 (Al (Al F o.dst .junk) o2.dst y) H)
    |none=>go F
  | some (j,want)=>match (ops[j]?).bind (·.dst) with
   |some d=>match F.getD d .junk with
    | .bl b=>if b=want then go F else pass F
    | .v (.bool g)=>if want then .br g (go (F.set d (.bl true))) (pass (F.set d (.bl false))) else .br g (pass (F.set d (.bl true))) (go (F.set d (.bl false)))
    | .v (.tuple _)=>pass F
    |_=> .no
   |none=> .no
def nki:LV->LV
 | .ki k n=> .v (.int k n)
 |x=>x
def T1 (b:Bool):LV->LV->LV
 | .v (.int k n),.v (.int k' m)=>if k=k' then .v (.int k (if b then n else m)) else .junk
 | .bl true,.bl false=> .v (.bool b)
 | .bl false,.bl true=> .v (.bool !b)
 | .bl true,.bl true=> .bl true
 | .bl false,.bl false=> .bl false
 | .v (.bool p),.bl false=> .v (.bool (b&&p))
 | .v (.bool p),.bl true=> .v (.bool (!b ||p))
 | .bl true,.v (.bool q)=> .v (.bool (b ||q))
 | .bl false,.v (.bool q)=> .v (.bool (!b&&q))
 | .v (.bool p),.v (.bool q)=> .v (.bool (if b then p else q))
 |_,_=> .junk
def X9 (b:Bool) (x y:LV):LV:=T1 b (nki x) (nki y)
def OQ (P:Program) (o:Oper):Bool:=
 match o.op with
 | .alloc _| .box ..| .store ..| .makeSlice ..| .makeMap ..| .insert ..| .mapUpdate ..=>false
 | .buildSlice ..=>false
 | .call {callee:=.builtin .append,..}=>false
 | .call {callee:=.builtin .copy,..}=>false
 | .call {callee:=.value _,..}=>L1 P 8 o.type
 | .call {callee:=.invoke ..,..}=>L1 P 8 o.type
 |_=>true
def Rj (P:Program) (Γ:Specs) (o:Oper):Bool:=
 OQ P o&&(match o.op with
 | .call {callee:=.value (.func g),..}=>(Γ g).isSome
 | .call {callee:=.value _,..}=>false
 |_=>true)
def FC (ops:List Oper):List Nat:=ops.filterMap (·.dst)
def T9 (ds:List Nat) (b:Bool) (F F1 F2:List LV):List LV:=(List.range F.length).map λi=>if ds.contains i then X9 b (F1.getD i .junk) (F2.getD i .junk) else F.getD i .junk
def fnX:LV->LV->Bool
 | .fn ..,.fn ..=>true
 | .fn ..,.v _=>true
 | .v _,.fn ..=>true
 |_,_=>false
def fnD (ds:List Nat) (F1 F2:List LV):Bool:=ds.any λd=>fnX (F1.getD d .junk) (F2.getD d .junk)
def K9 (ds:List Nat) (F:List LV) (H:List AB):T (List LV×List AB)->T (List LV×List AB)
 | .ok x=> .ok x
 | .no=> .no
 | .req p t=> .req p (K9 ds F H t)
 | .br b t e=>match K9 ds F H t,K9 ds F H e with
  | .ok x,.ok y=>if fnD ds x.1 y.1 then .br b (.ok x) (.ok y) else .ok (T9 ds b F x.1 y.1,H)
  |t',e'=> .br b t' e'
def aAe (P:Program) (G:Av) (Γ:Specs) (K:Hand) (ops:Array Oper) (F:List LV) (H:List AB):T (List LV×List AB):=
 if ops.toList.all (Rj P Γ) then K9 (FC ops.toList) F H (IF P G Γ K ops ops.toList F H) else IF P G Γ K ops ops.toList F H
def isSp (P:Program) (o:Oper):Bool:=
 match o.op with
 | .alloc _| .box ..| .store ..| .buildSlice ..| .makeSlice ..| .makeMap ..| .insert ..| .mapUpdate ..=>true
 | .call {callee:=.builtin .append,..}=>true
 | .call {callee:=.builtin .copy,..}=>true
 | .call {callee:=.value _,..}=>!L1 P 8 o.type
 | .call {callee:=.invoke ..,..}=>!L1 P 8 o.type
 |_=>false
def cI (sp:Oper->Bool):List Bool->List Oper->List Bool
 |fs,[]=>fs
 |fs,o::os=>cI sp (fs++[sp o ||o.after.toList.any (λe=>Region.binds .any e&&fs.getD e.on false)]) os
def akU (o:Oper):Bool:=
 match o.op with
 | .assign _=>true
 |_=>false
def ME (H:List AB) (ops:List Oper) (F:List LV):Nat->Nat->List Nat
 |0,_=>[]
 | d+1,t=>match ops.find? (λo=>o.dst==some t&&!akU o) with
  | some o=>match o.op with
   | .fieldAddr _ (.tmp y) _=>ME H ops F d y
   | .indexAddr _ (.tmp y) _=>ME H ops F d y
   | .move (.tmp y)=>ME H ops F d y
   | .nilCheck (.tmp y)=>ME H ops F d y
   | .load _ (.tmp y)=>(ME H ops F d y).flatMap λk=>match H[k]? with
    |some b=>ownsL b.c
    |none=>[]
   |_=>[]
  |none=>match F.getD t .junk with
   | .own k _=>[k]
   | .op k _ _ _=>[k]
   | .os k _ _ _=>[k]
   | .om k=>[k]
   |_=>[]
def tracked (H:List AB) (ops:List Oper) (F:List LV):List Nat:=ops.flatMap λo=>match o.op with
 | .store _ (.tmp x) _=>ME H ops F 12 x
 | .insert _ (.tmp x) _ _=>ME H ops F 12 x
 | .mapUpdate _ (.tmp x) _ _=>ME H ops F 12 x
 | .call {callee:=.builtin .append,args,..}=>match args.toList with
  |(.tmp x)::_=>ME H ops F 12 x
  |_=>[]
 | .call {callee:=.builtin .copy,args,..}=>match args.toList with
  |(.tmp x)::_=>ME H ops F 12 x
  |_=>[]
 |_=>[]
def alX (H:List AB) (ops:List Oper) (F:List LV) (tr:List Nat) (o:Oper):Bool:=
 match o.op with
 | .load _ (.tmp x)=>(ME H ops F 12 x).any tr.contains
 |_=>false
def Qc (b:AB):AB:=
 match b.k with
 | .cl=>⟨List.replicate b.c.length .junk,b.t,.cl,b.p⟩
 |_=>⟨[],b.t,.dead,false⟩
def EN (tr:List Nat):Nat->List AB->List AB
 |_,[]=>[]
 |k,b::bs=>(if tr.contains k then Qc b else b)::EN tr (k+1) bs
def WS (o:Oper):Bool:=
 match o.op with
 | .call {callee:=.value _,..}=>true
 | .call {callee:=.invoke ..,..}=>true
 |_=>false
def qU (G:Av) (F:List LV) (tr:List Nat) (o:Oper):Bool:=
 match o.op with
 | .load _ x=>match AL G F x with
  | .own k _=>!tr.contains k
  | .op k _ _ _=>!tr.contains k
  |_=>true
 | .lookup _ x _ _=>match AL G F x with
  | .om k=>!tr.contains k
  |_=>true
 |_=>true
def aJb (t:T (LV×List AB)):T LV:=t.bind λq=> .ok q.1
def XN (P:Program) (G:Av) (Γ:Specs) (tr:List Nat) (F:List LV) (Hm:List AB) (o:Oper):T LV:=
 if isSp P o || !qU G F tr o then .no
 else if WS o then Q9 (aJb (Ap P G Γ F Hm o))
 else aJb (Ap P G Γ F Hm o)
def Hp (P:Program) (G:Av) (Γ:Specs) (ops:Array Oper) (tr:List Nat) (H Hm:List AB):List Bool->List Oper->List LV->T (List LV×List AB)
 | f::fs,o::os,F=>
  if f then Hp P G Γ ops tr H Hm fs os F else
  let go (F:List LV):T (List LV×List AB):=(XN P G Γ tr F Hm o).bind λy=>Hp P G Γ ops tr H Hm fs os (Al F o.dst y)
  let pass (F:List LV):T (List LV×List AB):=Hp P G Γ ops tr H Hm fs os (Al F o.dst (.v undef))
  match o.guard with
  |none=>go F
  | some (j,want)=>match (ops[j]?).bind (·.dst) with
   |some d=>match F.getD d .junk with
    | .bl b=>if b=want then go F else pass F
    | .v (.bool g)=>if want then .br g (go (F.set d (.bl true))) (pass (F.set d (.bl false))) else .br g (pass (F.set d (.bl true))) (go (F.set d (.bl false)))
    | .v (.tuple _)=>pass F
    |_=> .no
   |none=> .no
 |_,_,F=> .ok (F,H)
def EX (G:Av) (F:List LV) (o:Oper):List Nat:=
 match o.op with
 | .store _ x _=>owns (AL G F x)
 | .insert _ x _ _=>owns (AL G F x)
 | .mapUpdate _ x _ _=>owns (AL G F x)
 | .call {callee:=.builtin .append,args,..}=>match args.toList.map (AL G F) with
  |x::_=>owns x
  | []=>[]
 | .call {callee:=.builtin .copy,args,..}=>match args.toList.map (AL G F) with
  |x::_=>owns x
  | []=>[]
 |_=>[]
def CK (G:Av) (F:List LV) (tr:List Nat) (n0:Nat) (o:Oper):Bool:=(EX G F o).all λk=>tr.contains k ||decide (n0<=k)
def p2x (P:Program) (G:Av) (Γ:Specs) (ops:Array Oper) (tr:List Nat) (n0:Nat):List Bool->List Oper->List LV->List AB->T (List LV×List AB)
 | f ::fs,o::os,F,H=>
  if f then
   let go (F:List LV):T (List LV×List AB):=if CK G F tr n0 o then (Ap P G Γ F H o).bind λq=>p2x P G Γ ops tr n0 fs os (Al F o.dst q.1) q.2 else .no
   let pass (F:List LV):T (List LV×List AB):=p2x P G Γ ops tr n0 fs os (Al F o.dst (.v undef)) H
   match o.guard with
   |none=>go F
   | some (j,want)=>match (ops[j]?).bind (·.dst) with
    |some d=>match F.getD d .junk with
     | .bl b=>if b=want then go F else pass F
     | .v (.bool g)=>if want then .br g (go (F.set d (.bl true))) (pass (F.set d (.bl false))) else .br g (pass (F.set d (.bl true))) (go (F.set d (.bl false)))
     | .v (.tuple _)=>pass F
     |_=> .no
    |none=> .no
  else p2x P G Γ ops tr n0 fs os F H
 |_,_,F,H=> .ok (F,H)
def IC (o:Oper):Bool:=
 match o.op with
 | .buildSlice ..=>true
 | .call {callee:=.value _,..}=>true
 |_=>false
def ER (o:Oper):Bool:=
 match o.op with
 | .alloc _=>true
 | .box ..=>true
 | .makeSlice ..=>true
 | .buildSlice _ len parts=>(len==0)&&parts.toList.isEmpty
 |_=>false
def Md (o:Oper):Bool:=
 match o.op with
 | .alloc _=>true
 | .box ..=>true
 | .load ..=>true
 |_=>false
def IM (P:Program) (G:Av) (Γ:Specs) (F:List LV) (o:Oper):T LV:=
 match o.op with
 | .buildSlice t len parts=>if aJ1 Γ t then .no else if noOwnL ((parts.toList.map λq=>(q.1,AL G F q.2)).map (·.2)) then LN P t len (parts.toList.map λq=>(q.1,AL G F q.2)) else .no
 | .call {callee:=.value f,args,..}=>match AL G F f with
  | .fn g cap=>match P.funcs[g]? with
   | some fn=>if fn.body.isSome&&!(fn.name== "runtime.NumGoroutine") then
     match Γ g with
     |some S=>if noOwnL (args.toList.map (λx=>norm (AL G F x))++cap) then S (args.toList.map (λx=>norm (AL G F x))++cap) else .no
     |none=> .no
    else .no
   |none=> .no
  |_=> .no
 |_=> .no
def abj (o:Oper):List Nat:=(o.after.toList.filter (Region.binds .any)).map (·.on)
def aJp:List (List Nat)->List Oper->List (List Nat)
 |acc,[]=>acc
 |acc,o::os=>aJp (acc++[(abj o++(abj o).flatMap (λk=>acc.getD k [])).eraseDups]) os
def aij (A:List (List Nat)) (n i:Nat):Bool:=(List.range n).all λj=>j==i ||(A.getD i []).contains j ||(A.getD j []).contains i
def Et (ops:Array Oper) (i:Nat) (o:Oper):Bool:=IC o&&!aij (aJp [] ops.toList) ops.size i
def Fm (P:Program) (G:Av) (Γ:Specs) (ops:Array Oper) (i:Nat) (F:List LV) (H:List AB) (o:Oper):T (LV×List AB):=
 if Et ops i o then (IM P G Γ F o).bind λy=> .ok (y,H) else Ap P G Γ F H o
def FI (P:Program) (G:Av) (Γ:Specs) (ops:Array Oper) (tr:List Nat) (n0:Nat):List Nat->List LV->List AB->T (List LV×List AB)
 | [],F,H=> .ok (F,H)
 |i::is,F,H=>match ops[i]? with
  |some o=>if o.guard.isNone&&CK G F tr n0 o then (Fm P G Γ ops i F H o).bind λq=>FI P G Γ ops tr n0 is (Al F o.dst q.1) q.2 else .no
  |none=> .no
def It (o:Oper):Bool:=
 match o.op with
 | .move _=>true
 | .assign _=>true
 | .indexAddr ..=>true
 | .fieldAddr ..=>true
 | .build ..=>true
 | .extract ..=>true
 | .call {callee:=.builtin .max,..}=>true
 | .call {callee:=.builtin .min,..}=>true
 | .binOp op _ _ _ _=>(match op with
  | .add=>true
  | .sub=>true
  | .mul=>true
  |_=>false)
 |_=>false
def JZ (o:Oper):Bool:=
 match o.op with
 | .load ..=>true
 |_=>false
def fk (o:Oper):Bool:=
 match o.op with
 | .store ..=>true
 | .alloc _=>true
 | .box ..=>true
 |_=>false
def LZ (o:Oper):Bool:=
 match o.op with
 | .call {callee:=.builtin .append,..}=>true
 |_=>false
def Qk (ops:Array Oper) (i j:Nat):Bool:=
 match ops[i]?,ops[j]? with
 |some x,some y=>x.guard.isNone&&y.guard.isNone&&((Md x&&Et ops j y) ||(Et ops i x&&Md y) ||(Et ops i x&&Et ops j y) ||((It x ||JZ x)&&(It y ||JZ y)) ||(It x&&fk y) ||(fk x&&It y) ||(Et ops i x&&LZ y) ||(LZ x&&Et ops j y))&&x.apart ops y
 |_,_=>false
def FY (i:Nat):List Nat->List Nat
 | []=>[]
 |j::js=>if j=i then [] else j::FY i js
def LW (ops:Array Oper):Nat->List Nat->Array Bool->Bool
 |0,R,listed=>R.isEmpty&&(Region.ready .any ops listed).isEmpty
 |n+1,R,listed=>!(Region.ready .any ops listed).isEmpty&&(Region.ready .any ops listed).all λi=>R.contains i&&(FY i R).all (λj=>Qk ops i j)&&LW ops n (R.erase i) (listed.setIfInBounds i true)
def preB (ops:Array Oper) (i p:Nat):Bool:=
 match ops[i]? with
 |some o=>o.after.toList.any λe=>Region.binds .any e&&e.on==p
 |none=>false
def fU (ops:Array Oper) (R:List Nat):Nat->Nat->Nat->Bool
 |0,i,j=>preB ops i j
 |n+1,i,j=>preB ops i j ||R.any λp=>preB ops i p&&fU ops R n p j
def cu (ops:Array Oper) (R0:List Nat):List Nat->Bool
 | []=>true
 |j::R=>R.all (λi=>Qk ops i j ||fU ops R0 4 i j)&&cu ops R0 R
def aaX (ops:Array Oper) (R:List Nat) (listed:Array Bool):Bool:=R.all λi=>
 match ops[i]? with
 |some o=>o.after.toList.all λe=>!Region.binds .any e ||(listed.getD e.on false ||(FY i R).contains e.on)
 |none=>false
def lM:List Nat->Bool
 | []=>true
 |x::l=>!l.contains x&&lM l
def lE (ops:Array Oper) (R:List Nat) (listed:Array Bool):Bool:=
 lM R&&(listed.size==ops.size&&((List.range ops.size).all (λi=>R.contains i==!listed.getD i true)&&(R.all (λi=>decide (i<ops.size))&&(cu ops R R&&aaX ops R listed))))
def WZ (ops:Array Oper) (flags:List Bool):Bool:=letI a:=T8 (idxs false flags 0) (Array.replicate ops.size false);letI b:=idxs true flags 0;TC ops flags&&(lE ops b a ||LW ops b.length b a)
def Fy:AB:=⟨[],0,.dead,false⟩
def Iy (P:Program) (G:Av) (F:List LV) (H:List AB) (k:Nat) (o:Oper):T (LV×List AB):=
 match o.op with
 | .alloc t=>match IA P t with
  |some z=>match CL (.v z) with
   |some cs=> .ok (.own k 0,H.set k ⟨cs,t,.cl,false⟩)
   |none=> .no
  |none=> .no
 | .box t x=>match CL (AL G F x) with
  |some cs=> .ok (.own k 0,H.set k ⟨cs,t,.cl,false⟩)
  |none=> .no
 | .makeSlice t n c=>match PF P t,pl (AL G F n),pl (AL G F c) with
  | some (e,ty,m,Ep),some (.int .i64 n),some (.int .i64 c)=>match IA P e with
   |some z=>match Je ty (z.cells.toList.map .v) with
    |some d=>if z.cells.size=m then .req (0<=n/\n<=c/\Ep*c<=2^48/\c<2^63) (.ok (.os k m 0 n.toNat,H.set k ⟨[],e,.vec ty (List.replicate n.toNat d),false⟩)) else .no
    |none=> .no
   |none=> .no
  |_,_,_=> .no
 | .buildSlice t len parts=>if len=0 then (if parts.toList.isEmpty then (match PF P t with
  |some (e,ty,m,_)=> .ok (.os k m 0 0,H.set k ⟨[],e,.vec ty [],false⟩)
  |none=> .no) else .no) else .no
 |_=> .no
def alj (ops:Array Oper) (t:Tmp):Option Nat:=(List.range ops.size).find? λi=>match ops[i]? with
 |some o=>o.dst==some t
 |none=>false
def apD (ops:Array Oper) (o:Oper):Option Nat:=
 match o.op with
 | .call {callee:=.builtin .append,args,..}=>(match args.toList with
  | .tmp t::_=>alj ops t
  |_=>none)
 |_=>none
def apK (d n0:Nat):List LV->Bool
 | [.os k _ _ _,.xl _ _]=>k==n0+d
 |_=>false
def LP (G:Av) (ops:Array Oper) (n0:Nat) (F:List LV) (H:List AB) (o:Oper):Bool:=
 match o.op with
 | .call {callee:=.builtin .append,args,..}=>(match apD ops o with
  |some d=>decide (n0+ops.size<=H.length)&&apK d n0 (args.toList.map (AL G F))
  |none=>false)
 |_=>false
def PI (o:Oper):Bool:=
 match o.op with
 | .store ..=>true
 | .move _=>true
 | .assign _=>true
 | .build ..=>true
 |_=>false
def Hk (P:Program) (G:Av) (Γ:Specs) (ops:Array Oper) (n0 i:Nat) (F:List LV) (H:List AB) (o:Oper):T (LV×List AB):=
 if ER o then Iy P G F H (n0+i) o else if PI o then Ap P G Γ F H o else if LP G ops n0 F H o then Ap P G Γ F H o else .no
def Fg (P:Program) (G:Av) (Γ:Specs) (ops:Array Oper) (tr:List Nat) (n0:Nat):List Nat->List LV->List AB->T (List LV×List AB)
 | [],F,H=> .ok (F,H)
 |i::is,F,H=>match ops[i]? with
  |some o=>if o.guard.isNone&&CK G F tr n0 o then (Hk P G Γ ops n0 i F H o).bind λq=>Fg P G Γ ops tr n0 is (Al F o.dst q.1) q.2 else .no
  |none=> .no
def Iu (o:Oper):Bool:=
 match o.op with
 | .move _=>true
 | .assign _=>true
 | .build ..=>true
 |_=>false
def ff (ops:Array Oper) (i j:Nat):Bool:=
 match ops[i]?,ops[j]? with
 |some x,some y=>!(i==j)&&x.guard.isNone&&y.guard.isNone&&(((ER x ||Iu x)&&(ER y ||Iu y)) ||((ER x ||Iu x)&&(LZ y&&!(apD ops y==some i))) ||((LZ x&&!(apD ops x==some j))&&(ER y ||Iu y)))&&x.apart ops y
 |_,_=>false
def aK (ops:Array Oper):Nat->List Nat->Array Bool->Bool
 |0,R,listed=>R.isEmpty&&(Region.ready .any ops listed).isEmpty
 |n+1,R,listed=>!(Region.ready .any ops listed).isEmpty&&(Region.ready .any ops listed).all λi=>R.contains i&&(FY i R).all (λj=>ff ops i j)&&aK ops n (R.erase i) (listed.setIfInBounds i true)
def Ob:List Nat->Bool
 | []=>true
 |k::ks=>!ks.contains k&&Ob ks
def alx (ops:Array Oper) (flags:List Bool):Bool:=letI a:=idxs true flags 0;TC ops flags&&Ob a&&a.all (λi=>decide (i<ops.size))&&aK ops a.length a (T8 (idxs false flags 0) (Array.replicate ops.size false))
def pux (P:Program) (G:Av) (Γ:Specs) (F:List LV) (o:Oper):T LV:=
 match o.op with
 | .move x=> .ok (AL G F x)
 | .assign x=> .ok (AL G F x)
 | .pick c a b=>fV (AL G F c) (AL G F a) (AL G F b)
 | .load t x=>(match AL G F x with
  | .xq m f=>F7 P [] t (.xq m f)
  |_=> .no)
 | .fieldAddr s x i=>Wa P s (AL G F x) i
 | .indexAddr t x i=>TA P t (AL G F x) (Uu (AL G F i)) (AL G F i)
 | .build t parts=>NK P t (parts.toList.map λq=>(q.1,Hb G F q.2))
 | .buildSlice ..=>IM P G Γ F o
 | .call {callee:=.value _,..}=>IM P G Γ F o
 | .unOp ..=>DY P G F o
 | .binOp op _ _ _ _=>(match op with
  | .quo=> .no
  | .rem=> .no
  | .shl=> .no
  | .shr=> .no
  |_=>DY P G F o)
 |_=> .no
def ya (G:Av) (F:List LV) (o:Oper):Bool:=
 match o.op with
 | .load _ x=>(match AL G F x with
  | .own _ _=>true
  |_=>false)
 |_=>true
def spz (P:Program) (G:Av) (Γ:Specs) (F:List LV) (H:List AB) (o:Oper):T (LV×List AB):=if ya G F o then Ap P G Γ F H o else .no
def Gg (P:Program) (G:Av) (Γ:Specs) (ops:Array Oper) (tr:List Nat) (n0:Nat):List Nat->List LV->List AB->T (List LV×List AB)
 | [],F,H=> .ok (F,H)
 |i::is,F,H=>match ops[i]? with
  |some o=>if o.guard.isNone&&CK G F tr n0 o then (spz P G Γ F H o).bind λq=>Gg P G Γ ops tr n0 is (Al F o.dst q.1) q.2 else .no
  |none=> .no
def Uv (P:Program) (o:Oper):Bool:=
 match o.op with
 | .call {callee:=.builtin .append,..}=>true
 | .buildSlice t len _=>decide (len=0) ||cD P t
 |_=>false
def fe (P:Program) (ops:Array Oper) (i j:Nat):Bool:=
 match ops[i]?,ops[j]? with
 |some x,some y=>x.guard.isNone&&y.guard.isNone&&(JZ x&&Uv P y)&&x.apart ops y
 |_,_=>false
def aL (P:Program) (ops:Array Oper):Nat->List Nat->Array Bool->Bool
 |0,R,listed=>R.isEmpty&&(Region.ready .any ops listed).isEmpty
 |n+1,R,listed=>!(Region.ready .any ops listed).isEmpty&&(Region.ready .any ops listed).all λi=>R.contains i&&(FY i R).all (λj=>fe P ops i j)&&aL P ops n (R.erase i) (listed.setIfInBounds i true)
def aHB (ops:Array Oper) (i:Nat):List Nat->List Nat
 | []=>[i]
 |j::js=>if preB ops j i then i::j::js else j::aHB ops i js
def TZ (ops:Array Oper):List Nat->List Nat
 | []=>[]
 |i::is=>if (ops[i]?).any JZ then aHB ops i (TZ ops is) else i::TZ ops is
def dU (P:Program) (ops:Array Oper) (flags:List Bool):Bool:=letI a:=idxs true flags 0;TC ops flags&&((TZ ops a).all (λi=>flags.getD i false)&&aL P ops a.length (TZ ops a) (T8 (idxs false flags 0) (Array.replicate ops.size false)))
def fa (P:Program) (G:Av) (Γ:Specs) (ops:Array Oper) (F:List LV) (H:List AB):T (List LV×List AB):=
 let tr:=tracked H ops.toList F
 let flags:=cI (λo=>isSp P o ||alX H ops.toList F tr o) [] ops.toList
 if fu ops flags&&P.follows .mixedOrders&&tr.all (λk=>decide (k<H.length)) then
  (K9 (FC ops.toList) F H (Hp P G Γ ops tr H (EN tr 0 H) flags ops.toList F)).bind λq=>p2x P G Γ ops tr H.length flags ops.toList q.1 H
 else if (WZ ops flags ||dU P ops flags)&&P.follows .mixedOrders&&tr.all (λk=>decide (k<H.length)) then
  (K9 (FC ops.toList) F H (Hp P G Γ ops tr H (EN tr 0 H) flags ops.toList F)).bind λq=>if WZ ops flags then FI P G Γ ops tr H.length (idxs true flags 0) q.1 H else Gg P G Γ ops tr H.length (TZ ops (idxs true flags 0)) q.1 H
 else if alx ops flags&&P.follows .mixedOrders&&tr.all (λk=>decide (k<H.length)) then
  (K9 (FC ops.toList) F H (Hp P G Γ ops tr H (EN tr 0 H) flags ops.toList F)).bind λq=>Fg P G Γ ops tr H.length (idxs true flags 0) q.1 (H++List.replicate ops.size Fy)
 else .no
def aFr (ops:List Oper) (s:Nat):Nat:=
 match ops.find? (λo=>o.dst==some s) with
 |some o=>match o.op with
  | .move (.tmp y)=>y
  |_=>s
 |none=>s
def isApp (o:Oper):Bool:=
 match o.op with
 | .call {callee:=.builtin .append,..}=>true
 |_=>false
def q9 (P:Program) (ops:List Oper) (F:List LV):Option (Nat×IntKind×Int×Nat):=
 if ops.any isApp then
  ops.findSome? λo=>match o.op with
   | .indexAddr t _ (.tmp s)=>match P.underlying t with
    |some (.array len e)=>match P.underlying e,F.getD (aFr ops s) .junk with
     |some (.slice _),.v (.int k n)=>some (aFr ops s,k,n,len)
     |_,_=>none
    |_=>none
   |_=>none
 else none
def splitN {α:Type}(f:Nat->T α) (n:Int):Nat->Nat->T α
 |0,_=> .no
 |1,j=>f j
 |m+2,j=> .br (n==(j:Int)) (f j) (splitN f n (m+1) (j+1))
def XS (P:Program) (G:Av) (Γ:Specs) (ops:Array Oper) (F:List LV) (H:List AB):T (List LV×List AB):=
 match q9 P ops.toList F with
 |some (s,k,n,len)=> .req (0<=n/\n<(len:Int)) (splitN (λj=>fa P G Γ ops (F.set s (.ki k j)) H) n len 0)
 |none=>fa P G Γ ops F H
def nF (G:Av) (Γ:Specs) (ops:Array Oper):Option Oper:=
 match ops.back? with
 | some o=>match callOf G [] o with
  |some (g,_)=>match Γ g with
   |some _=>none
   |none=>if lastB .any ops.pop o then some o else none
  |none=>none
 |none=>none
def fc (P:Program) (G:Av) (Γ:Specs) (K:Hand) (ops:Array Oper) (F:List LV) (H:List AB):T (List LV×List AB):=
 match nF G Γ ops with
 |some o=>(XS P G Γ ops.pop F H).bind λq=>(Jl P G Γ K q.1 q.2 o).bind λq2=> .ok (Al q.1 o.dst q2.1,q2.2)
 |none=>XS P G Γ ops F H
def hwx (P:Program) (G:Av) (Γ:Specs) (F:List LV) (H:List AB) (o:Oper):T LV:=
 match o.op with
 | .call _=>IM P G Γ F o
 | .move x=> .ok (AL G F x)
 | .assign x=> .ok (AL G F x)
 | .load t x=>F7 P H t (AL G F x)
 | .fieldAddr s x i=>Wa P s (AL G F x) i
 | .nilCheck x=>match AL G F x with
  | .own k off=> .ok (.own k off)
  | .op k es i j=> .ok (.op k es i j)
  | .xq n f=> .ok (.xq n f)
  |_=> .no
 | .binOp op _ _ _ _=>match op with
  | .add=>DY P G F o
  | .sub=>DY P G F o
  | .mul=>DY P G F o
  |_=> .no
 |_=> .no
def aIs (G:Av) (Γ:Specs) (ops:Array Oper):Option Nat:=(List.range ops.size).find? λi=>
 match ops[i]? with
 |some o=>(match callOf G [] o with
  |some (g,_)=>(Γ g).isNone
  |none=>false)
 |none=>false
def Nz (ops:Array Oper) (i:Nat):List Nat:=
 match ops[i]? with
 |some o=>(o.after.toList.filter (Region.binds .any)).map (·.on)
 |none=>[]
def GP (ops:Array Oper) (i:Nat):List Nat:=UP .any ops ops.size (Nz ops i)
def FW (ops:Array Oper) (i:Nat):Option Tmp:=(ops[i]?).bind (·.dst)
def N9 (ops:Array Oper) (i:Nat):List Tmp:=
 match ops[i]? with
 |some o=>o.looksAt ops
 |none=>[]
def Qb (ops:Array Oper) (w:Nat):List Nat:=(List.range ops.size).filter λi=>!(i==w)&&!(GP ops i).contains w
def allA (ops:Array Oper) (w i:Nat):Bool:=(Qb ops w).all λj=>(GP ops i).contains j
def Qg (ops:Array Oper) (w:Nat):List Nat:=(List.range ops.size).filter λi=>!(i==w)&&((GP ops i).contains w&&!allA ops w i)
def JU (ops:Array Oper) (w:Nat):List Nat:=(List.range ops.size).filter λi=>!(i==w)&&((GP ops i).contains w&&allA ops w i)
def fX (ops:Array Oper) (w:Nat):List Nat:=Qb ops w++([w]++Qg ops w)
def abH (ops:Array Oper) (i j:Nat):Bool:=
 match FW ops j with
 |some d=>(i==j || !(FW ops i==some d))&&(!(N9 ops i).contains d ||(!(i==j)&&decide (j<i)&&(GP ops i).contains j))
 |none=>false
def aPJ (ops:Array Oper) (i j:Nat):Bool:=
 match FW ops j with
 |some d=>!(N9 ops i).contains d
 |none=>false
def okW (ops:Array Oper) (w n:Nat):Bool:=
 let AW:=fX ops w
 AW.all (λi=>(match ops[i]? with|some o=>o.guard.isNone|none=>false)&&(match FW ops i with|some d=>decide (d<n) |none=>false)&&
  (Nz ops i).all (λp=>decide (p<i)&&AW.contains p)&&AW.all (λj=>abH ops i j))&&
 ((JU ops w).all (λb=>AW.all λi=>(GP ops b).contains i)&&(Qb ops w++[w]).all λi=>([w]++Qg ops w).all λj=>aPJ ops i j)
def goW (P:Program) (G:Av) (Γ:Specs) (ops:Array Oper) (H:List AB):List Nat->List LV->T (List LV)
 | [],F=> .ok F
 |i::is,F=>match ops[i]? with
  |some o=>(hwx P G Γ F H o).bind λy=>goW P G Γ ops H is (Al F o.dst y)
  |none=> .no
def aQ (P:Program) (G:Av) (Γ:Specs) (ops:Array Oper) (H:List AB) (F:List LV):List Nat->T Unit
 | []=> .ok ()
 | i::is=>match ops[i]? with
  |some o=>(match o.op with
   | .load _ _=>(hwx P G Γ F H o).bind λy=> .req (y=(match o.dst with|some d=>F.getD d .junk|none=> .junk)) (aQ P G Γ ops H F is)
   |_=>aQ P G Γ ops H F is)
  |none=> .no
def K6 (ops:Array Oper) (w:Nat):Array Bool:=((List.range ops.size).map λi=>(fX ops w).contains i).toArray
def aaY (ops:Array Oper):Nat->Array Bool->List Nat
 |0,_=>[]
 |n+1,l=>match Region.ready .any ops l with
  | []=>[]
  |i::_=>i::aaY ops n (l.setIfInBounds i true)
def J2 (ops:Array Oper) (w:Nat):List Nat:=aaY ops (JU ops w).length (K6 ops w)
def zG (P:Program) (G:Av) (Γ:Specs) (K:Hand) (ops:Array Oper) (w:Nat) (F:List LV) (H:List AB):T (List LV×List AB):=
 if okW ops w F.length&&P.follows .mixedOrders&&((J2 ops w).length==(JU ops w).length)&&(lE ops (J2 ops w) (K6 ops w) ||LW ops (J2 ops w).length (J2 ops w) (K6 ops w)) then
  match ops[w]? with
  |some o=>(goW P G Γ ops H (Qb ops w) F).bind λF1=>(Jl P G Γ K F1 H o).bind λq=>(aQ P G Γ ops q.2 F1 ((Qb ops w).filter λi=>!(GP ops w).contains i)).bind λ_=>(goW P G Γ ops q.2 (Qg ops w) (Al F1 o.dst q.1)).bind λF3=>FI P G Γ ops [] q.2.length (J2 ops w) F3 q.2
  |none=> .no
 else .no
def zF (P:Program) (G:Av) (Γ:Specs) (K:Hand) (ops:Array Oper) (F:List LV) (H:List AB):T (List LV×List AB):=
 match nF G Γ ops with
 |some _=>fc P G Γ K ops F H
 |none=>match aIs G Γ ops with
  |some w=>zG P G Γ K ops w F H
  |none=>fc P G Γ K ops F H
def GL:Code->Nat
 | .region id _ _=>id
 | .seq a _=>GL a
 | .block _ b=>GL b
 | .loop b=>GL b
 | .cond _ a _=>GL a
 |_=>0
abbrev LA:=Nat->List LV->List AB->T (Ex×List LV×List AB)
abbrev QI:=Code->List LV->List AB->T (Ex×List LV×List AB)
def Li (L:LA):QI:=λb=>L (GL b)
def tI:Option AB->Option Ex
 |some ⟨_,_,.Cc _ _ _ .ready,false⟩=>some .normal
 |some ⟨_,_,.Cc _ _ _ (.done x),false⟩=>match x with
  | .normal=>none
  |x=>some x
 |_=>none
def aAW:Operand->List Nat
 | .tmp t=>[t]
 |_=>[]
def GM:Code->List Nat
 | .region _ ops _=>ops.toList.flatMap λo=>o.op.operands.toList.flatMap aAW
 | .seq a b=>GM a++GM b
 | .cond c a b=>aAW c++GM a++GM b
 | .block _ b=>GM b
 | .loop b=>GM b
 | .rangeFunc f _ a b=>aAW f++GM a++GM b
 | .scope b=>GM b
 |_=>[]
def Ou (us:List Nat) (F:List LV):List LV:=(List.range F.length).map λi=>if us.contains i then F.getD i .junk else .junk
def DC (P:Program) (G:Av) (Γ:Specs) (K:Hand) (L:QI):Code->List LV->List AB->T (Ex×List LV×List AB)
 | .skip,F,H=> .ok (.normal,F,H)
 | .ret,F,H=> .ok (.ret,F,H)
 | .exit n,F,H=> .ok (.exit n,F,H)
 | .region _ ops d,F,H=>(if d then zF P G Γ K ops F H else aAe P G Γ K ops F H).bind λq=> .ok (.normal,q.1,q.2)
 | .seq a b,F,H=>(DC P G Γ K L a F H).bind λq=>match q.1 with
  | .normal=>DC P G Γ K L b q.2.1 q.2.2
  |x=> .ok (x,q.2)
 | .cond c a b,F,H=>match c with
  | .tmp d=>match F.getD d .junk with
   | .bl true=>DC P G Γ K L a F H
   | .bl false=>DC P G Γ K L b F H
   | .v (.bool g)=> .br g (DC P G Γ K L a (F.set d (.bl true)) H) (DC P G Γ K L b (F.set d (.bl false)) H)
   |_=> .no
  | .const (.bool true)=>DC P G Γ K L a F H
  | .const (.bool false)=>DC P G Γ K L b F H
  |_=> .no
 | .block id a,F,H=>(DC P G Γ K L a F H).bind λq=>match q.1 with
  | .exit n=>if n=id then .ok (.normal,q.2) else .ok (.exit n,q.2)
  |x=> .ok (x,q.2)
 | .loop a,F,H=>L a F H
 | .scope a,F,H=>DC P G Γ K L a F H
 | .label _,F,H=> .ok (.normal,F,H)
 | .rangeFunc f ps asg body,F,H=>match AL G F f with
  | .fn g cap=>match P.funcs[g]? with
   | some fn=>if fn.body.isSome&&!(fn.name== "runtime.NumGoroutine") then
     (K.k g (.CN H.length::cap) (H++[⟨Ou (GM asg++GM body) F,0,.Cc ps asg body .ready,false⟩])).bind λq=>match tI q.2[H.length]? with
      |some x=> .ok (x,F,q.2.set H.length ⟨[],0,.dead,false⟩)
      |none=> .no
    else .no
   |none=> .no
  |_=> .no
 |_,_,_=> .no
def Rg (P:Program) (fn:Func) (F:List LV) (H:List AB):List ResultVar->T (List LV)
 | []=> .ok []
 | .tmp t::rs=>(Rg P fn F H rs).bind λl=> .ok (norm (F.getD t .junk)::l)
 | .cell a t::rs=>(F7 P H t (F.getD a .junk)).bind λy=>(Rg P fn F H rs).bind λl=> .ok (y::l)
def one (l:List LV):LV:=match l with| [x]=>x|l=>Qo l
def aAt (P:Program) (fn:Func) (t:List LV->List AB->T (Ex×List LV×List AB)) (args:List LV):T LV:=
 (t (args++List.replicate (fn.ntmps-args.length) (.v undef)) []).bind λq=>match q.1 with
  | .exit _=> .no
  |_=>(Rg P fn q.2.1 q.2.2 fn.results.toList).bind λl=>if noOwn (one l) then .ok (one l) else (EA q.2.2 8 (one l)).bind λ_=> .ok (Bz q.2.2 8 (one l))
def aAp (P:Program) (G:Av) (Γ:Specs) (K:Hand) (L:LA) (fn:Func) (args:List LV):T LV:=
 match fn.body with
 |some c=>aAt P fn (DC P G Γ K (Li L) c) args
 |none=> .no
def DA:List (FuncId×(List LV->T LV))->Specs
 | [],_=>none
 |p::ps,g=>if g=p.1 then some p.2 else DA ps g
def Af:LA:=λ_ _ _=> .no
def nq:QI:=λ_ _ _=> .no
def Hf:Code->Bool
 | .seq a b=>Hf a&&Hf b
 | .cond _ a b=>Hf a&&Hf b
 | .block _ b=>Hf b
 | .loop b=>Hf b
 | .rangeFunc ..=>false
 | .scope b=>Hf b
 |_=>true
def qi (t:List LV->List AB->T (Ex×List LV×List AB)):Nat->List LV->List AB->T (Ex×List LV×List AB)
 |0,_,_=> .no
 |m+1,F,H=>(t F H).bind λq=>match q.1 with
  | .normal=>qi t m q.2.1 q.2.2
  |x=> .ok (x,q.2)
def Iz (P:Program) (G:Av) (Γ:Specs) (K:Hand) (m:Nat):Nat->QI
 |0=>nq
 |d+1=>λb=>qi (DC P G Γ K (Iz P G Γ K m d) b) m
def XC (F:List LV):List Tmp->List LV->List LV
 |t::ts,x::xs=>XC (F.set t x) ts xs
 |_,_=>F
abbrev DI:=Hand->FuncId->Nat->QI
def EO (P:Program) (G:Av) (Γ:Specs) (LL:DI) (K:Hand):Hand:=
 ⟨λg args H=>match P.funcs[g]? with
  | some fn=>match fn.body with
   |some c=>(DC P G Γ K (LL K g H.length) c (args++List.replicate (fn.ntmps-args.length) (.v undef)) H).bind λq=>match q.1 with
    | .exit _=> .no
    |_=>(Rg P fn q.2.1 q.2.2 fn.results.toList).bind λl=> .ok (one l,q.2.2)
   |none=> .no
  |none=> .no,
  λk args H=>match H[k]? with
  | some ⟨F,t,.Cc ps asg body .ready,false⟩=>if args.length=ps.size/\Hf asg=true/\Hf body=true then
    (DC P G Γ K nq asg (XC F ps.toList args) H).bind λ(q:Ex×List LV×List AB)=>match q.1 with
     | .normal=>(match q.2.2[k]? with
      | some ⟨F1,_,.Cc ps1 asg1 body1 .ready,false⟩=>(DC P G Γ K (Iz P G Γ K 20 2) body q.2.1 (q.2.2.set k ⟨F1,t,.Cc ps1 asg1 body1 .busy,false⟩)).bind λ(r:Ex×List LV×List AB)=>match r.2.2[k]? with
       |some ⟨F2,_,.Cc ps2 asg2 body2 .busy,false⟩=>(match r.1 with
        | .normal=> .ok (.bl true,r.2.2.set k ⟨F2,t,.Cc ps2 asg2 body2 .ready,false⟩)
        |x=> .ok (.bl false,r.2.2.set k ⟨F2,t,.Cc ps2 asg2 body2 (.done x),false⟩))
       |_=> .no
      |_=> .no)
     |_=> .no
   else .no
  |_=> .no⟩
def inl (P:Program) (G:Av) (Γ:Specs) (LL:DI):Nat->Hand
 |0=>Fh
 |d+1=>EO P G Γ LL (inl P G Γ LL d)
abbrev Does:=FuncId->Option (List LV->List AB->T (LV×List AB))
def Ux (P:Program) (G:Av) (Γ:Specs) (LL:DI) (C:Does):Nat->Hand
 |0=>Fh
 |d+1=>⟨λg args H=>match C g with
  |some m=>m args H
  |none=>(EO P G Γ LL (Ux P G Γ LL C d)).k g args H,(EO P G Γ LL (Ux P G Γ LL C d)).y⟩
structure Gz where
 z:Nat->Prop
 gh:List (LV×Value)
 Ci:List Nat
variable {P : Program} {G : Av} {Γ : Specs} {β : Nat -> Loc} {Z : Nat -> Prop} {Z0 : Gz} {w w0 : World} {F : List LV} {H : List AB} {a : Act} {ds : List Deferred}
def Cb {x:LV}{y z:Value}(h:pl x=some y) (hr:R β Z w x z):z=y:=by
 cases x with
 |v q=>simp only [pl,Ad] at h;simp only [R] at hr;rw [hr,h]
 |bl b=>simp only [pl,Ad] at h;simp only [R] at hr;rw [hr,h]
 |ki k n=>simp only [pl,Ad] at h;simp only [R] at hr;rw [hr,h]
 | fn f l=>
  cases l with
  |nil=>
   simp only [pl,Ad] at h;simp only [R,RL] at hr;obtain ⟨ys,h1,h2⟩:=hr
   have:ys=#[]:=AA
   grind
  |cons _ _=>simp [pl] at h
 |_=>simp [pl] at h
def aJs {x:LV}{y:Value}(h:pl x=some y):R β Z w x y:=by
 cases x with
 |v q=>simp only [pl,Ad] at h;simp only [R];exact h.symm
 |bl b=>simp only [pl,Ad] at h;simp only [R];exact h.symm
 |ki k n=>simp only [pl,Ad] at h;simp only [R];exact h.symm
 |fn f l=>
  cases l with
  |nil=>simp only [pl,Ad] at h;simp only [R,RL];exact ⟨#[],h.symm,rfl⟩
  |cons _ _=>simp [pl] at h
 |_=>simp [pl] at h
def aOO:∀ {l:List LV}{ys zs:List Value},Ar l=some ys->RL β Z w l zs->zs=ys
 | [],ys,zs,h,hr=>by simp only [Ar,Ad] at h;simp only [RL] at hr;rw [hr,h]
 | x::xs,ys,zs,h,hr=>by
  simp only [Ar] at h;split at h
  ·rename_i y ys' h1 h2
   simp only [Ad] at h;obtain ⟨y',zs',e1,e2,e3⟩:=hr;rw [e1,Cb h1 e2,aOO h2 e3,h]
  ·cases h
def OY {x:LV}{y:Value}(h:R β Z w x y):R β Z w (norm x) y:=yD
def Sr {n:Nat}{x:LV}(h:okV n x):okV n (norm x):=yD
def aDV:∀ {l:List LV}{ys:List Value},RL β Z w l ys->RL β Z w (l.map norm) ys
 | [],_,h=>AA
 |x::xs,ys,h=>by
  obtain ⟨y,zs,h1,h2,h3⟩:=h;exact ⟨y,zs,h1,OY h2,aDV h3⟩
def oz {n:Nat}:∀ {l:List LV},AR n l->AR n (l.map norm)
 | [],_=>trivial
 |x::xs,h=>by
  exact ⟨Sr h.1,oz h.2⟩
def Vy {l:List LV}{ys:Array Value}(h:RL β Z w l ys.toList):R β Z w (JT l) (.agg ys):=by
 unfold JT;exact aLY
def qM {l:List LV}{ys:Array Value}(h:RL β Z w l ys.toList):R β Z w (Qo l) (.tuple ys):=by
 unfold Qo;exact aLY
def Px {n:Nat}{l:List LV}(h:AR n l):okV n (JT l):=by
 unfold JT;split
 ·trivial
 ·simpa only [okV] using oz h
def pC {n:Nat}{l:List LV}(h:AR n l):okV n (Qo l):=by
 unfold Qo;split
 ·trivial
 ·simpa only [okV] using oz h
def TI (n:Nat):∀(l:List Value),AR n (l.map .v)
 | []=>trivial
 |_::xs=>⟨trivial,TI n xs⟩
def UZ:∀(l:List Value),RL β Z w (l.map .v) l
 | []=>aH
 |x::xs=>by simp only [E8,RL,R];exact ⟨x,xs,rfl,rfl,UZ xs⟩
def aCU {x:LV}{y:Value}(h:WR x=true) (hr:R β Z w x y):JY y=true:=by
 cases x with
 |v q=>simp only [R] at hr;rw [hr];exact h
 |bl b=>simp only [R] at hr;rw [hr];rfl
 |ki k n=>simp only [R] at hr;rw [hr];rfl
 |own k off=>simp only [R] at hr;rw [hr];rfl
 |fn f l=>simp only [R] at hr;obtain ⟨ys,h1,_⟩:=hr;rw [h1];rfl
 |fb f l=>simp only [R] at hr;obtain ⟨ys,h1,_⟩:=hr;rw [h1];rfl
 |xq n f=>simp only [R] at hr;obtain ⟨b,off,h1,_⟩:=hr;rw [h1];rfl
 |os k es off n=>
  simp only [R] at hr;split at hr
  ·rw [hr.2.2];rfl
  ·obtain ⟨_,a,h1,_⟩:=hr;rw [h1];rfl
 |op k es i j=>simp only [R] at hr;rw [hr.2];rfl
 |om k=>simp only [R] at hr;rw [hr];rfl
 |mp kd ks vs=>simp only [R] at hr;obtain ⟨r,es,c,h1,_⟩:=hr;rw [h1];rfl
 |oc k es off n c=>simp only [R] at hr;obtain ⟨_,a,h1,_⟩:=hr;rw [h1];rfl
 |CN k=>simp only [R] at hr;rw [hr];rfl
 |xl e l=>simp only [R] at hr;obtain ⟨b,off,h1,_⟩:=hr;rw [h1];rfl
 |agg l=>simp [WR] at h
 |AM l=>simp [WR] at h
 |junk=>simp [WR] at h
def agG {y:Value}(h:JY y=true):y.cells=#[y]:=by cases y<;>first|rfl|(simp [JY] at h)
def nQ {x:LV}{y:Value}{cs:List LV}(h:CL x=some cs) (hr:R β Z w x y):RL β Z w cs y.cells.toList/\(∀z∈y.cells.toList,JY z=true):=by
 have single:∀x:LV,WR x=true->R β Z w x y->RL β Z w [x] y.cells.toList/\(∀z∈y.cells.toList,JY z=true):=λx hx hr=>by
  have h1:=aCU hx hr
  rw [agG h1];refine ⟨?_,?_⟩
  ·simp only [RL];exact ⟨y,[],rfl,hr,rfl⟩
  ·intro z hz
   grind
 cases x with
 | v q=>
  simp only [CL] at h;split at h
  ·rename_i ha
   simp only [Ad] at h;subst h hr;exact ⟨UZ _,λz hz=>BL.1 ha z hz⟩
  ·cases h
 | agg l=>
  simp only [CL] at h;split at h
  ·rename_i ha
   simp only [Ad] at h;obtain ⟨ys,h1,h2⟩:=hr;subst h h1;refine ⟨h2,λz hz=>?_⟩
   obtain ⟨i,hi,hz'⟩:=IS.1 hz
   have hlen:=RL.length h2
   have hl:l[i]? =some (l[i]'(by simp only [Value.cells] at hi;omega)):=DF _
   obtain ⟨y',e1,e2⟩:=RL.get i _ h2 hl
   have:y'=z:=by
    simp only [Value.cells] at hi hz'
    grind
   rw [<-this];exact aCU (BL.1 ha _ (FK _)) e2
  ·cases h
 |bl b=>simp only [CL,Ad] at h;subst h;exact single _ rfl hr
 |ki k n=>simp only [CL,Ad] at h;subst h;exact single _ rfl hr
 |own k off=>simp only [CL,Ad] at h;subst h;exact single _ rfl hr
 |fn f l=>simp only [CL,Ad] at h;subst h;exact single _ rfl hr
 |fb f l=>simp only [CL,Ad] at h;subst h;exact single _ rfl hr
 |xq n f=>simp only [CL,Ad] at h;subst h;exact single _ rfl hr
 |os k es off n=>simp only [CL,Ad] at h;subst h;exact single _ rfl hr
 |op k es i j=>simp only [CL,Ad] at h;subst h;exact single _ rfl hr
 |om k=>simp only [CL,Ad] at h;subst h;exact single _ rfl hr
 |mp kd ks vs=>simp only [CL,Ad] at h;subst h;exact single _ rfl hr
 |oc k es off n c=>simp only [CL,Ad] at h;subst h;exact single _ rfl hr
 |CN k=>simp only [CL,Ad] at h;subst h;exact single _ rfl hr
 |xl e l=>simp only [CL,Ad] at h;subst h;exact single _ rfl hr
 |AM l=>simp [CL] at h
 |junk=>simp [CL] at h
def mq {n:Nat}{x:LV}{cs:List LV}(h:CL x=some cs) (hr:okV n x):AR n cs:=by
 cases x with
 |v q=>
  simp only [CL] at h;split at h
  ·simp only [Ad] at h;subst h;exact TI _ _
  ·cases h
 |agg l=>
  simp only [CL] at h;split at h
  ·simp only [Ad] at h;subst h;simpa only [okV] using hr
  ·cases h
 |bl b=>simp only [CL,Ad] at h;subst h;exact ⟨hr,trivial⟩
 |ki k n=>simp only [CL,Ad] at h;subst h;exact ⟨hr,trivial⟩
 |own k off=>simp only [CL,Ad] at h;subst h;exact ⟨hr,trivial⟩
 |fn f l=>simp only [CL,Ad] at h;subst h;exact ⟨hr,trivial⟩
 |fb f l=>simp only [CL,Ad] at h;subst h;exact ⟨hr,trivial⟩
 |xq n f=>simp only [CL,Ad] at h;subst h;exact ⟨hr,trivial⟩
 |os k es off n=>simp only [CL,Ad] at h;subst h;exact ⟨hr,trivial⟩
 |op k es i j=>simp only [CL,Ad] at h;subst h;exact ⟨hr,trivial⟩
 |om k=>simp only [CL,Ad] at h;subst h;exact ⟨hr,trivial⟩
 |mp kd ks vs=>simp only [CL,Ad] at h;subst h;exact ⟨hr,trivial⟩
 |oc k es off n c=>simp only [CL,Ad] at h;subst h;exact ⟨hr,trivial⟩
 |CN k=>simp only [CL,Ad] at h;subst h;exact ⟨hr,trivial⟩
 |xl e l=>simp only [CL,Ad] at h;subst h;exact ⟨trivial,trivial⟩
 |AM l=>simp [CL] at h
 |junk=>simp [CL] at h
def PQ (G:Av) (Z:Nat->Prop) (w:World):Prop:=∀g n f,G g=some (n,f)->Z g/\∀j,j<n->w.cell? ⟨g,j,none⟩=some (f j)
def okB (n:Nat) (b:AB):Prop:=AR n b.c/\(match b.k with| .mp _ _ vs=>AR n vs|_=>True)
def live (β:Nat->Loc) (k:Nat) (b:AB):Prop:=
 match b.k with
 | .cl=>True
 | .vec _ _=>(β k).cap≠none
 | .mp ..=>True
 | .Cc ..=>True
 | .st ..=>True
 | .dead=>False
def aR7:Ex->Option Code
 | .normal=>none
 | .exit n=>some (.exit n)
 | .ret=>some .ret
def LsR:LS->Loop->Prop
 | .ready,r=>r.state=.ready/\r.pending=none
 | .busy,r=>r.state=.busy
 | .done x,r=>r.state=.done/\r.pending=aR7 x
def BU (β:Nat->Loc) (Z:Nat->Prop) (w:World) (k:Nat) (b:AB):Prop:=
 match b.k with
 | .cl=>∃cs,w.heap[(β k).b]? =some (.cells cs b.t (0,0))/\RL β Z w b.c cs.toList
 | .vec e l=>match (β k).cap with
  |none=>l=[]
  |some c=>∃cs,w.heap[(β k).b]? =some (.cells cs b.t (0,0))/\(β k).o+c*e.n<=cs.size/\List.length l<=c/\∀(i:Nat) (d:e.D),l[i]? =some d->RD Z w e d (β k).b ((β k).o+i*e.n)
 | .mp kd ks vs=>∃es clock,w.heap[(β k).b]? =some (.map es clock)/\es.toList.map (·.key)=ks.map (.int kd)/\RL β Z w vs (es.toList.map (·.val))
 | .Cc ps asg body st=>∃r:Loop,w.heap[(β k).b]? =some (.loop r)/\r.params=ps/\r.assign=asg/\r.body=body/\LsR st r/\RL β Z w b.c r.tmps.toList
 | .st e l=>∃es clock,w.heap[(β k).b]? =some (.map es clock)/\es.toList.map (·.key)=List.map (aAg e) l/\∀x,x∈es.toList->x.val=.bool true
 | .dead=>True
abbrev GK (D:Nat):Deferred:={target:=.collected D,args:=#[]}
def FU (w:World) (D:Nat):Prop:=w.heap[D]? =some (.deferred (some []))
structure RW (G:Av) (w0:World) (Z0:Gz) (Z:Nat->Prop) (β:Nat->Loc) (H:List AB) (w:World):Prop where
 below:Below w0.heap.size w0 w
 BV:∀b,Z b->b<w.heap.size
 ES:∀b,Z b->Z0.z b\/w0.heap.size<=b
 Cg:∀k b,H[k]? =some b->live β k b->b.p=false->¬Z (β k).b
 G0:∀k b,H[k]? =some b->live β k b->b.p=true->Z (β k).b
 low:∀k b,H[k]? =some b->live β k b->w0.heap.size<=(β k).b
 inj:∀i j bi bj,H[i]? =some bi->H[j]? =some bj->live β i bi->live β j bj->bi.p=false->(β i).b=(β j).b->i=j
 blk:∀k b,H[k]? =some b->BU β Z w k b/\okB H.length b
 CV:PQ G Z w
 gh:∀p,p∈Z0.gh->R β Z w p.1 p.2/\okV H.length p.1
 Ci:∀D,D∈Z0.Ci->Z D/\FU w D
structure RF (ds:List Deferred) (β:Nat->Loc) (Z:Nat->Prop) (w:World) (n:Nat) (F:List LV) (a:Act):Prop where
 size:a.tmps.size=F.length
 get:∀t x,F[t]? =some x->R β Z w x (a.tmps.getD t undef)/\okV n x
 defers:a.defers=ds/\∀d,d∈ds->∃D,d=GK D/\Z D/\FU w D
def RF.eval (hF:RF ds β Z w H.length F a) (hg:PQ G Z w) (x:Operand):R β Z w (AL G F x) (a.eval x)/\okV H.length (AL G F x):=by
 cases x with
 |tmp t=>
  simp only [AL,Act.eval];cases h:F[t]? with
  |none=>simp [List.getD,h,R,okV]
  |some y=>simp only [List.getD,h,jR];exact hF.get t y h
 |const x=>
  simp only [AL,Act.eval];cases x<;>simp [R,okV]
 | global g=>
  simp only [AL,Act.eval];split
  ·rename_i n f h
   obtain ⟨h1,h2⟩:=hg g n f h;simp only [R,okV]
   grind
  ·simp [R,okV]
 |func f=>simp only [AL,Act.eval,R,RL,okV,AR];exact ⟨⟨#[],rfl,rfl⟩,trivial⟩
def T.pick {α:Type}{K:α->Prop}:∀ {t:T α},t.all K->∃x,K x/\t.all (λy=>y=x)
 | .ok x,h=>⟨x,h,rfl⟩
 | .br b t e,h=>by
  cases b with
  |true=>obtain ⟨x,h1,h2⟩:=T.pick (h.1 rfl);exact ⟨x,h1,λ_=>h2,λhb=>Ku⟩
  |false=>obtain ⟨x,h1,h2⟩:=T.pick (h.2 rfl);exact ⟨x,h1,λhb=>Ku,λ_=>h2⟩
 | .req p t,h=>by obtain ⟨x,h1,h2⟩:=T.pick h.2;exact ⟨x,h1,h.1,h2⟩
 | .no,h=>Ah
def cell_of_block {b:Nat}{cs:Array Value}{t:TypeId}(h:w.heap[b]? =some (.cells cs t (0,0))) (o:Nat):w.cell? ⟨b,o,none⟩=cs[o]? :=by
 simp [World.cell?,h]
def azy {b:Nat}{cs:Array Value}{t:TypeId}(h:w.heap[b]? =some (.cells cs t (0,0))) (o:Nat):w.frozen? ⟨b,o,none⟩=false:=by
 simp [World.frozen?,h]
def addr_add (b o i:Nat):Addr.add ⟨b,o,none⟩ i=⟨b,o+i,none⟩:=by
 unfold Addr.add;split
 ·grind
 ·rfl
def bR {t:TypeId}{b:Bool}(h:Rl P t=some b) (w:World):(isAgg t).run P w=.ok b w:=by
 unfold Rl at h;cases hu:P.underlying t with
 |none=>simp [hu] at h
 |some d=>
  unfold isAgg;simp only [jd,CT hu,j8];cases d<;>simp_all
def run_sizeOf {t:TypeId}{n:Nat}(h:Gq P t=some n) (w:World):(sizeOf t).run P w=.ok n w:=by
 unfold Gq at h;cases hu:P.info? t with
 |none=>simp [hu] at h
 |some d=>
  simp only [hu,JH,Ad] at h
  simp [sizeOf,typeInfo,hu,h]
def mG {t:TypeId}{z:Value}(h:IA P t=some z) (w:World):(zeroValue t).run P w=.ok z w:=by
 unfold IA at h;cases hu:P.info? t with
 |none=>simp [hu] at h
 |some d=>
  simp only [hu,O7] at h
  simp [zeroValue,typeInfo,hu,h]
def RL.take_drop {l:List LV}{ys:List Value}(h:RL β Z w l ys) (off n:Nat):RL β Z w ((l.drop off).take n) ((ys.drop off).take n):=by
 have hl:=RL.length h
 refine RL.CO AA λi x hx=>?_
 rw [Kq] at hx|-;split at hx
 ·rename_i hi
  rw [AE hi];rw [Ew] at hx|-;exact RL.get _ _ h hx
 ·cases hx
def AR.take_drop {n:Nat}{l:List LV}(h:AR n l) (off m:Nat):AR n ((l.drop off).take m):=by
 refine AR.CO λi x hx=>?_
 rw [Kq] at hx;split at hx
 ·rw [Ew] at hx;exact AR.get _ _ h hx
 ·cases hx
def RF.mono {β':Nat->Loc}{Z':Nat->Prop}{w':World}{n m:Nat}(hF:RF ds β Z w n F a) (hn:n<=m) (hβ:∀k,k<n->β' k=β k) (hZ:∀b,Z b->Z' b)
  (hw:∀b,Z b->w'.heap[b]? =w.heap[b]?):RF ds β' Z' w' m F a:=
 ⟨hF.size,λt x hx=>⟨R.mono hβ hZ hw x _ (hF.get t x hx).2 (hF.get t x hx).1,okV.mono hn x (hF.get t x hx).2⟩,hF.defers.1,λd hd=>by
  obtain ⟨D,h1,h2,h3⟩:=hF.defers.2 d hd;exact ⟨D,h1,hZ D h2,by unfold FU;rw [hw D h2];exact h3⟩⟩
def okB.mono {n m:Nat}(h:n<=m) {b:AB}(hb:okB n b):okB m b:=by
 refine ⟨AR.mono h _ hb.1,?_⟩
 have:=hb.2
 split
 ·rename_i hk;rw [hk] at this;exact AR.mono h _ this
 ·trivial
def K5 {β':Nat->Loc}{k:Nat}{b:AB}(h:β' k=β k):live β' k b=live β k b:=by
 unfold live;rw [h]
def BU.keep {β':Nat->Loc}{Z':Nat->Prop}{w':World}{n k:Nat}{b:AB}(hβ:∀k,k<n->β' k=β k) (hZ:∀b,Z b->Z' b) (hw:∀b,Z b->w'.heap[b]? =w.heap[b]?) (hk:β' k=β k)
  (hb:live β k b->w'.heap[(β k).b]? =w.heap[(β k).b]?) (hok:okB n b) (h:BU β Z w k b):BU β' Z' w' k b:=by
 unfold BU at*;unfold live at hb;unfold okB at hok;rw [hk];split at h
 ·rename_i hbk
  obtain ⟨cs,h1,h2⟩:=h;exact ⟨cs,AA,RL.mono hβ hZ hw _ _ hok.1 h2⟩
 ·rename_i e l hbk
  simp only [hbk] at hb|-;split at h
  ·rename_i hc
   grind
  ·rename_i c hc
   have hb':=hb (by rw [hc];simp)
   obtain ⟨cs,h1,h2,h3,h4⟩:=h;exact ⟨cs,AA,h2,h3,λi d hd=>RD.keep hZ hw e d _ _ hb' (h4 i d hd)⟩
 ·rename_i kd ks vs hbk
  simp only [hbk] at hb hok|-;obtain ⟨es,clock,h1,h2,h3⟩:=h;exact ⟨es,clock,AA,h2,RL.mono hβ hZ hw _ _ hok.2 h3⟩
 ·rename_i ps asg body st hbk
  obtain ⟨r,h1,h2,h3,h4,h5,h6⟩:=h;exact ⟨r,AA,h2,h3,h4,h5,RL.mono hβ hZ hw _ _ hok.1 h6⟩
 ·rename_i e l hbk
  grind
 ·rename_i hbk
  grind
def RW.lt (hW:RW G w0 Z0 Z β H w) {k:Nat}{b:AB}(hk:H[k]? =some b) (hl:live β k b):(β k).b<w.heap.size:=by
 have h:=(hW.blk k b hk).1
 unfold BU at h;unfold live at hl;split at h
 ·obtain ⟨cs,h1,_⟩:=h
  grind
 ·rename_i hbk
  split at h
  ·grind
  ·obtain ⟨cs,h1,_⟩:=h
   grind
 ·obtain ⟨es,clock,h1,_⟩:=h
  grind
 ·obtain ⟨r,h1,_⟩:=h
  grind
 ·obtain ⟨es,clock,h1,_⟩:=h
  grind
 ·rename_i hbk
  grind
def Dx {w w':World}(hb:Below w.heap.size w w') {b:Nat}(h:b<w.heap.size):w'.heap[b]? =w.heap[b]? :=hb.block b h
def PQ.mono {Z':Nat->Prop}{w':World}(h:PQ G Z w) (hZ:∀b,Z b->Z' b) (hw:∀b,Z b->w'.heap[b]? =w.heap[b]?):PQ G Z' w':=λg n f hg=>by
 obtain ⟨h1,h2⟩:=h g n f hg;exact ⟨hZ _ h1,λj hj=>by rw [Pk (hw g h1)];exact h2 j hj⟩
def RW.call {w':World}(hW:RW G w0 Z0 Z β H w) (hb:Below w.heap.size w w'):RW G w0 Z0 (λb=>Z b\/(w.heap.size<=b/\b<w'.heap.size)) β H w':=by
 have hs:=hb.size
 have h0:=hW.below.size
 have hw:∀b,Z b->w'.heap[b]? =w.heap[b]? :=λb hz=>Dx hb (hW.BV b hz)
 refine ⟨hW.below.trans (hb.mono h0),λb hz=>?_,λb hz=>?_,λk b hk hl hp hz=>?_,λk b hk hl hp=> .inl (hW.G0 k b hk hl hp),hW.low,hW.inj,λk b hk=>?_,hW.CV.mono (λ_ h=> .inl h) hw,λp hp=>⟨R.mono (n:=H.length) (λ_ _=>rfl) (λ_ h=> .inl h) hw _ _ (hW.gh p hp).2 (hW.gh p hp).1,(hW.gh p hp).2⟩,λD hD=>⟨.inl (hW.Ci D hD).1,Zm⟩⟩
 ·rcases hz with hz|hz
  ·have:=hW.BV b hz;omega
  ·exact hz.2
 ·rcases hz with hz|hz
  ·exact hW.ES b hz
  ·omega
 ·rcases hz with hz|hz
  ·exact hW.Cg k b hk hl hp hz
  ·have:=hW.lt hk hl;omega
 ·obtain ⟨h1,h2⟩:=hW.blk k b hk
  exact ⟨h1.keep (λ_ _=>rfl) (λ_ h=> .inl h) hw rfl (λhl=>Dx hb (hW.lt hk hl)) h2,h2⟩
def RW.same {w':World}(hW:RW G w0 Z0 Z β H w) (hb:Below w.heap.size w w'):RW G w0 Z0 Z β H w':=by
 have hs:=hb.size
 have h0:=hW.below.size
 have hw:∀b,Z b->w'.heap[b]? =w.heap[b]? :=λb hz=>Dx hb (hW.BV b hz)
 refine ⟨hW.below.trans (hb.mono h0),λb hz=>?_,hW.ES,hW.Cg,hW.G0,hW.low,hW.inj,λk b hk=>?_,hW.CV.mono (λ_ h=>h) hw,λp hp=>⟨R.mono (n:=H.length) (λ_ _=>rfl) (λ_ h=>h) hw _ _ (hW.gh p hp).2 (hW.gh p hp).1,(hW.gh p hp).2⟩,λD hD=>⟨(hW.Ci D hD).1,Zm⟩⟩
 ·have:=hW.BV b hz;omega
 ·obtain ⟨h1,h2⟩:=hW.blk k b hk
  exact ⟨h1.keep (λ_ _=>rfl) (λ_ h=>h) hw rfl (λhl=>Dx hb (hW.lt hk hl)) h2,h2⟩
def RW.KJ {ℓ:Loc}{nb:AB}(hW:RW G w0 Z0 Z β H w) (hp:nb.p=false) (hok:okB (H.length+1) nb)
  (hf:live (λ_=>ℓ) 0 nb->¬Z ℓ.b/\w0.heap.size<=ℓ.b/\∀j bj,H[j]? =some bj->live β j bj->(β j).b≠ℓ.b)
  (hB:∀β':Nat->Loc,(∀k,k<H.length->β' k=β k)->β' H.length=ℓ->BU β' Z w H.length nb):
  ∃β',(∀k,k<H.length->β' k=β k)/\β' H.length=ℓ/\RW G w0 Z0 Z β' (H++[nb]) w:=by
 let β':Nat->Loc:=λk=>if k=H.length then ℓ else β k
 have hb':∀k,k<H.length->β' k=β k:=λk hk=>AA
 have hbn:β' H.length=ℓ:=by simp [β']
 have hlive:live β' H.length nb=live (λ_=>ℓ) 0 nb:=by unfold live;rw [hbn]
 have old:∀k b,(H++[nb])[k]? =some b->(k<H.length/\H[k]? =some b/\β' k=β k)\/(k=H.length/\b=nb):=λk b h=>by
  by_cases hk:k<H.length
  ·grind
  ·have hkl:k=H.length:=AA
   subst hkl
   simp at h
   exact .inr ⟨rfl,h.symm⟩
 refine ⟨β',hb',hbn,hW.below,hW.BV,hW.ES,λk b hk hl hp'=>?_,λk b hk hl hp'=>?_,λk b hk hl=>?_,λi j bi bj hi hj li lj hpi e=>?_,λk b hk=>?_,hW.CV,λp hp=>⟨R.mono hb' (λ_ h=>h) (λ_ _=>rfl) _ _ (hW.gh p hp).2 (hW.gh p hp).1,okV.mono AJ _ (hW.gh p hp).2⟩,hW.Ci⟩
 ·rcases old k b hk with ⟨h1,h2,h3⟩ |⟨rfl,rfl⟩
  ·rw [h3];rw [K5 h3] at hl;exact hW.Cg k b h2 hl hp'
  ·grind
 ·rcases old k b hk with ⟨h1,h2,h3⟩ |⟨rfl,rfl⟩
  ·rw [h3];rw [K5 h3] at hl;exact hW.G0 k b h2 hl hp'
  ·rw [hp] at hp';cases hp'
 ·rcases old k b hk with ⟨h1,h2,h3⟩ |⟨rfl,rfl⟩
  ·rw [h3];rw [K5 h3] at hl;exact hW.low k b h2 hl
  ·grind
 ·rcases old i bi hi with ⟨h1,h2,h3⟩ |⟨rfl,rfl⟩
  ·rw [K5 h3] at li
   rcases old j bj hj with ⟨g1,g2,g3⟩ |⟨rfl,rfl⟩
   ·rw [K5 g3] at lj;rw [h3,g3] at e;exact hW.inj i j bi bj h2 g2 li lj hpi e
   ·grind
  ·rw [hlive] at li
   rcases old j bj hj with ⟨g1,g2,g3⟩ |⟨rfl,rfl⟩
   ·rw [K5 g3] at lj;rw [hbn,g3] at e;exact absurd e.symm ((hf li).2.2 j bj g2 lj)
   ·rfl
 ·have hlen:(H++[nb]).length=H.length+1:=AJ
  rw [hlen];rcases old k b hk with ⟨h1,h2,h3⟩ |⟨rfl,rfl⟩
  ·obtain ⟨g1,g2⟩:=hW.blk k b h2
   exact ⟨g1.keep hb' (λ_ h=>h) (λ_ _=>rfl) h3 (λ_=>rfl) g2,g2.mono A0⟩
  ·grind
def RW.set {w':World}{k:Nat}{b nb:AB}(hW:RW G w0 Z0 Z β H w) (hk:H[k]? =some b) (hl:live β k b) (hp:b.p=false) (hnp:nb.p=false) (hok:okB H.length nb)
  (hsz:w'.heap.size=w.heap.size) (hos:w'.os=w.os/\w'.tape=w.tape/\w'.output=w.output) (hne:∀j,j≠(β k).b->w'.heap[j]? =w.heap[j]?) (hB:BU β Z w' k nb):RW G w0 Z0 Z β (H.set k nb) w':=by
 have hw:∀b',Z b'->w'.heap[b']? =w.heap[b']? :=λb' hz=>hne b' (λe=>hW.Cg k b hk hl hp (e▸hz))
 have old:∀i bi,(H.set k nb)[i]? =some bi->(i=k/\bi=nb)\/(i≠k/\H[i]? =some bi):=λi bi h=>by
  rw [HI] at h;split at h
  ·rename_i e
   grind
  ·grind
 refine ⟨?_,λb' hz=>aNV,hW.ES,λi bi hi li pi=>?_,λi bi hi li pi=>?_,λi bi hi li=>?_,λi j bi bj hi hj li lj pi e=>?_,λi bi hi=>?_,hW.CV.mono (λ_ h=>h) hw,λp hp=>⟨R.mono (n:=H.length) (λ_ _=>rfl) (λ_ h=>h) hw _ _ (hW.gh p hp).2 (hW.gh p hp).1,aNW⟩,λD hD=>⟨(hW.Ci D hD).1,Zm⟩⟩
 ·refine hW.below.trans ⟨hos.1,hos.2.1,hos.2.2,jL hsz.symm,λi hi=>hne i ?_⟩
  have:=hW.low k b hk hl
  omega
 ·rcases old i bi hi with ⟨rfl,rfl⟩ |⟨h1,h2⟩
  ·exact hW.Cg _ b hk hl hp
  ·exact hW.Cg i bi h2 li pi
 ·rcases old i bi hi with ⟨rfl,rfl⟩ |⟨h1,h2⟩
  ·grind
  ·exact hW.G0 i bi h2 li pi
 ·rcases old i bi hi with ⟨rfl,rfl⟩ |⟨h1,h2⟩
  ·exact hW.low _ b hk hl
  ·exact hW.low i bi h2 li
 ·rcases old i bi hi with ⟨rfl,rfl⟩ |⟨h1,h2⟩
  ·rcases old j bj hj with ⟨rfl,rfl⟩ |⟨g1,g2⟩
   ·rfl
   ·exact hW.inj _ j b bj hk g2 hl lj hp e
  ·rcases old j bj hj with ⟨rfl,rfl⟩ |⟨g1,g2⟩
   ·exact hW.inj i _ bi b h2 hk li hl pi e
   ·exact hW.inj i j bi bj h2 g2 li lj pi e
 ·rw [Br]
  rcases old i bi hi with ⟨rfl,rfl⟩ |⟨h1,h2⟩
  ·grind
  ·obtain ⟨g1,g2⟩:=hW.blk i bi h2
   refine ⟨g1.keep (λ_ _=>rfl) (λ_ h=>h) hw rfl (λli=>hne _ λe=>?_) g2,g2⟩
   exact h1 (hW.inj k i b bi hk h2 hl li hp e.symm).symm
def RW.alloc {cs:List LV}{vs:Array Value}{t:TypeId}(hW:RW G w0 Z0 Z β H w) (hr:RL β Z w cs vs.toList) (hk:AR H.length cs):
  ∃β',(∀k,k<H.length->β' k=β k)/\(β' H.length).b=w.heap.size/\RW G w0 Z0 Z β' (H++[⟨cs,t,.cl,false⟩]) (w.alloc (.cells vs t))/\(∀b,Z b->(w.alloc (.cells vs t)).heap[b]? =w.heap[b]?):=by
 have hbw:Below w.heap.size w (w.alloc (.cells vs t)):=(Below.refl _ _).alloc (At _) _
 have hw:∀b,Z b->(w.alloc (.cells vs t)).heap[b]? =w.heap[b]? :=λb hz=>Dx hbw (hW.BV b hz)
 obtain ⟨β',h1,h2,h3⟩:=(hW.same hbw).KJ (ℓ:=⟨w.heap.size,0,none⟩) (nb:=⟨cs,t,.cl,false⟩) rfl ⟨AR.mono A0 _ hk,trivial⟩ (λ_=>⟨λhz=>Zz,hW.below.size,λj bj hj lj e=>SS⟩) (λβ' h1 h2=>by
  simp only [BU,h2];refine ⟨vs,?_,RL.mono h1 (λ_ h=>h) hw _ _ hk hr⟩
  show (w.heap.push _)[w.heap.size]? =_
  simp)
 grind
def DP (β:Nat->Loc) (H:List AB) (ks:List Nat):List Nat:=(ks.filter (λk=>@decide (∃b,H[k]? =some b/\live β k b/\b.p=false) (Classical.propDecidable _))).map λk=>(β k).b
def cB {ks:List Nat}{x:Nat}:x∈DP β H ks↔∃k b,k∈ks/\H[k]? =some b/\live β k b/\b.p=false/\x=(β k).b:=by
 unfold DP;simp only [Eg,HJ]
 constructor
 ·rintro ⟨k,⟨h1,h2⟩,h3⟩
  grind
 ·rintro ⟨k,b,h1,h2,h3,h4,h5⟩
  grind
def T3 {k:Nat}{b:AB}(hb:H[k]? =some b) (hl:live β k b) (hp:b.p=false):(β k).b∈DP β H [k]:=cB.2 ⟨k,b,AJ,hb,hl,hp,rfl⟩
end Go.Sx
namespace Go.Sx
open Go.Proofs.YtgmhhjldohjpmaaGreatDoor
open Go Go.RowKit
variable {P : Program} {G : Av} {Γ : Specs} {β : Nat -> Loc} {Z : Nat -> Prop} {Z0 : Gz} {w w0 : World} {F : List LV} {H : List AB} {a : Act}
def RD.cells {Z Z':Nat->Prop}{w w':World}(hZ:∀b,Z b->Z' b) (hw:∀b,Z b->w'.heap[b]? =w.heap[b]?):
  ∀(t:Ty) (d:t.D) (b o:Nat),(∀j,j<t.n->w'.cell? ⟨b,o+j,none⟩=w.cell? ⟨b,o+j,none⟩)->RD Z w t d b o->RD Z' w' t d b o
 | .int _,_,b,o,hb,h=>VL
 | .bool,_,b,o,hb,h=>VL
 | .str,_,b,o,hb,h=>VL
 | .sl e,l,b,o,hb,h=>by
  exact aKp
 | .pair x y,d,b,o,hb,h=>by
  refine ⟨RD.cells hZ hw x d.1 b o (λj hj=>hb j kQ) h.1,RD.cells hZ hw y d.2 b _ (λj hj=>?_) h.2⟩
  have:=hb (x.n+j) kQ
  grind
def getD_lt {l:List LV}{j:Nat}(h:j<l.length):l[j]? =some (l.getD j .junk):=AA
def nw {n:Nat}{l:List LV}(h:AR n l) (j:Nat):okV n (l.getD j .junk):=by
 cases hq:l[j]? with
 |none=>simp [List.getD,hq,okV]
 |some q=>simp only [List.getD,hq,jR];exact AR.get _ _ h hq
def getD_at {e:Ty}{l:List e.D}{i:Nat}(h:i<List.length l):l[i]? =some (l.getD i e.dflt):=AA
def pD {b off n:Nat}{L:List LV}(hL:L.length=n) (hc:∀q,q<n->∃z,w.cell? ⟨b,off+q,none⟩=some z/\R β Z w (L.getD q .junk) z):
  ∃zs:List Value,zs.length=n/\RL β Z w L zs/\∀w':World,w'.heap[b]? =w.heap[b]? ->(loadCells ⟨b,off,none⟩ n).run P w'=.ok zs.toArray w':=by
 have hch:∀j,∃z,j<n->w.cell? ⟨b,off+j,none⟩=some z/\R β Z w (L.getD j .junk) z:=λj=>by
  by_cases hj:j<n
  ·grind
  ·exact ⟨undef,λh=>absurd h hj⟩
 obtain ⟨g,hg⟩:=wZ hch;refine ⟨(List.range n).map g,AJ,RL.CO AA λi x hx=>?_,λw' hw'=>?_⟩
 ·have hi:i<n:=AA
  refine ⟨g i,AA,?_⟩
  grind
 ·have hld:=run_loadCells (P:=P) w' ⟨b,off,none⟩ n g (λj hj=>by rw [addr_add,Pk (w:=w) (w':=w') hw'];exact (hg j hj).1)
  grind
def mH {t:TypeId}{x lv:LV}{y:Value}(hW:RW G w0 Z0 Z β H w) (h:(F7 P H t x).all (λz=>z=lv)) (hr:R β Z w x y) (hk:okV H.length x):
  ∃z,(∀w',(∀b,(Z b\/∃k,k∈owns x/\b=(β k).b)->w'.heap[b]? =w.heap[b]?)->(Instr.loadAt t y).run P w'=.ok z w')/\R β Z w lv z/\okV H.length lv:=by
 have ownCl:∀(k:Nat) (b:AB),H[k]? =some b->b.Dl=true->∃cs,w.heap[(β k).b]? =some (.cells cs b.t (0,0))/\RL β Z w b.c cs.toList/\AR H.length b.c:=λk b hb hc=>by
  obtain ⟨h1,h2⟩:=hW.blk k b hb;unfold BU at h1;unfold AB.Dl at hc;split at hc
  ·rename_i hk'
   simp only [hk'] at h1;obtain ⟨cs,h3,h4⟩:=h1;exact ⟨cs,h3,h4,h2.1⟩
  ·cases hc
 have vecAt:∀(k es i:Nat) (c:List LV) (t:TypeId) (e:Ty) (l:List e.D) (p:Bool),H[k]? =some ⟨c,t,.vec e l,p⟩->(β k).cap≠none->e.n=es->i<List.length l->∀q,q<es->∃z,w.cell? ⟨(β k).b,(β k).o+i*es+q,none⟩=some z/\R β Z w ((Bk e (l.getD i e.dflt)).getD q .junk) z:=λk es i c t e l p hb hcap hes hi q hq=>by
  have h1:=(hW.blk k _ hb).1
  simp only [BU] at h1;split at h1
  ·exact xW
  ·obtain ⟨cs,_,_,_,h4⟩:=h1
   have h5:=h4 i _ (getD_at hi)
   subst hes;exact Wb e _ _ _ h5 q _ (getD_lt (by rw [Jr];exact hq))
 unfold F7 at h;split at h
 ·rename_i n hag hsz
  have e1:=λw=>bR hag w
  have e2:=λw=>run_sizeOf hsz w
  split at h
  ·rename_i k off
   split at h
   ·rename_i b hb
    split at h
    ·rename_i hle
     simp only [T.all] at h;obtain ⟨cs,hc,hrl,hok⟩:=ownCl k b hb hle.1;simp only [R] at hr
     have hlen:=RL.length hrl
     have hn:((b.c.drop off).take n).length=n:=Cn
     obtain ⟨zs,f1,f2,f3⟩:=pD (P:=P) (β:=β) (Z:=Z) (w:=w) (b:=(β k).b) (off:=off) (L:=(b.c.drop off).take n) hn (λq hq=>by
      have hlt:off+q<b.c.length:=A0
      obtain ⟨z,h1,h2⟩:=RL.get _ _ hrl (DF hlt);refine ⟨z,aMh,?_⟩
      have:((b.c.drop off).take n).getD q .junk=b.c[off+q]:=by
       grind
      rw [this];exact h2)
     refine ⟨.agg zs.toArray,λw' hw'=>?_,?_,?_⟩
     ·have:=f3 w' (hw' (β k).b (.inr ⟨k,IU,rfl⟩))
      simp [Instr.loadAt,Instr.sureAddr,hr,loadVar,e1,e2,this]
     ·exact xO
     ·rw [<-h];exact Px (hok.take_drop off n)
    ·cases h
   ·cases h
  ·rename_i m f
   split at h
   ·rename_i hle
    simp only [T.all] at h;simp only [R] at hr;obtain ⟨b,off,e3,hz,e4⟩:=hr;simp only [okV] at hk
    obtain ⟨zs,f1,f2,f3⟩:=pD (P:=P) (β:=β) (Z:=Z) (w:=w) (b:=b) (off:=off) (L:=(List.range n).map f) (n:=n) AJ (λq hq=>by
     obtain ⟨z,h1,h2⟩:=e4 q A0;exact ⟨z,h1,by simpa [List.getD,hq] using h2⟩)
    refine ⟨.agg zs.toArray,λw' hw'=>?_,?_,?_⟩
    ·have:=f3 w' (hw' b (.inl hz))
     simp [Instr.loadAt,Instr.sureAddr,e3,loadVar,e1,e2,this]
    ·exact xO
    ·rw [<-h]
     refine Px (AR.CO λi x hx=>?_)
     have hi:i<n:=by have:=(Du.1 hx).1;simpa using this
     have:x=f i:=by simpa [hi] using hx.symm
     rw [this];exact okV.mono (Kr _) _ (hk i)
   ·cases h
  ·rename_i k es i j
   split at h
   ·rename_i c t' e l p hb
    split at h
    ·rename_i hle
     simp only [T.all] at h;obtain ⟨hi,h⟩:=h;simp only [R] at hr
     have hva:=vecAt k es i c t' e l p hb hr.1 hle.1 hi
     have hlen:(Bk e (l.getD i e.dflt)).length=es:=by rw [Jr];exact hle.1
     obtain ⟨zs,f1,f2,f3⟩:=pD (P:=P) (β:=β) (Z:=Z) (w:=w) (b:=(β k).b) (off:=(β k).o+i*es+j) (L:=((Bk e (l.getD i e.dflt)).drop j).take n) (n:=n) (by rw [G9,DE,hlen];omega) (λq hq=>by
      obtain ⟨z,h1,h2⟩:=hva (j+q) A0;refine ⟨z,by rw [HL _ j q];exact h1,?_⟩
      have:(((Bk e (l.getD i e.dflt)).drop j).take n).getD q .junk=(Bk e (l.getD i e.dflt)).getD (j+q) .junk:=by
       generalize Bk e (l.getD i e.dflt)=L
       grind
      rw [this];exact h2)
     refine ⟨.agg zs.toArray,λw' hw'=>?_,?_,?_⟩
     ·have:=f3 w' (hw' (β k).b (.inr ⟨k,IU,rfl⟩))
      simp [Instr.loadAt,Instr.sureAddr,hr.2,loadVar,e1,e2,this]
     ·exact xO
     ·rw [<-h];exact Px ((NC _ e _).take_drop j n)
    ·cases h
   ·cases h
  ·cases h
 ·rename_i _ hag
  have e1:=λw=>bR hag w
  split at h
  ·rename_i k off
   split at h
   ·rename_i b hb
    split at h
    ·rename_i hcl
     split at h
     ·rename_i z hz
      simp only [T.all] at h;obtain ⟨cs,hc,hrl,hok⟩:=ownCl k b hb hcl;simp only [R] at hr;obtain ⟨q,h1,h2⟩:=RL.get _ _ hrl hz;refine ⟨q,λw' hw'=>?_,?_,?_⟩
      ·have:w'.cell? ⟨(β k).b,off,none⟩=some q:=by rw [cell_of_block (by rw [hw' (β k).b (.inr ⟨k,IU,rfl⟩)];exact hc)];simpa using h1
       simp [Instr.loadAt,Instr.sureAddr,hr,loadVar,e1,this]
      ·rw [<-h];exact h2
      ·rw [<-h];exact AR.get _ _ hok hz
     ·cases h
    ·cases h
   ·cases h
  ·rename_i m f
   split at h
   ·rename_i hm
    simp only [T.all] at h;simp only [R] at hr;obtain ⟨b,off,e3,hz,e4⟩:=hr;obtain ⟨z,h1,h2⟩:=e4 0 hm;refine ⟨z,λw' hw'=>?_,?_,?_⟩
    ·have:w'.cell? ⟨b,off,none⟩=some z:=by rw [Pk (w:=w) (w':=w') (hw' b (.inl hz))];simpa using h1
     simp [Instr.loadAt,Instr.sureAddr,e3,loadVar,e1,this]
    ·rw [<-h];exact h2
    ·rw [<-h];simp only [okV] at hk;exact okV.mono (Kr _) _ (hk 0)
   ·cases h
  ·rename_i k es i j
   split at h
   ·rename_i c t' e l p hb
    split at h
    ·rename_i hes
     simp only [T.all] at h;obtain ⟨hi,h⟩:=h;split at h
     ·rename_i q hq
      simp only [T.all] at h;simp only [R] at hr
      have hj:j<es:=by
       have:=(Du.1 hq).1
       rw [Jr] at this;omega
      obtain ⟨z,h1,h2⟩:=vecAt k es i c t' e l p hb hr.1 hes hi j hj
      have hqq:(Bk e (l.getD i e.dflt)).getD j .junk=q:=Dw ((getD_lt (Du.1 hq).1).symm.trans hq)
      rw [hqq] at h2;refine ⟨z,λw' hw'=>?_,?_,?_⟩
      ·have:w'.cell? ⟨(β k).b,(β k).o+i*es+j,none⟩=some z:=by rw [Pk (w:=w) (w':=w') (hw' (β k).b (.inr ⟨k,IU,rfl⟩))];exact h1
       simp [Instr.loadAt,Instr.sureAddr,hr.2,loadVar,e1,this]
      ·rw [<-h];exact h2
      ·rw [<-h];exact AR.get _ _ (NC _ e _) hq
     ·cases h
    ·cases h
   ·cases h
  ·cases h
 ·cases h
end Go.Sx
namespace Go.Sx
open Go.Proofs.YtgmhhjldohjpmaaGreatDoor
open Go Go.RowKit
variable {P : Program} {G : Av} {Γ : Specs} {β : Nat -> Loc} {Z : Nat -> Prop} {Z0 : Gz} {w w0 : World} {F : List LV} {H : List AB} {a : Act}
def ox {z:Value}(h:JY z=true):z.oneCell'=true:=by cases z<;>first|rfl|(simp [JY] at h)
def aBE (w:World) (g:Nat) (cs:Array Value) (k:Nat) (h:k≠g):(w.setRow g cs).heap[k]? =w.heap[k]? :=by
 simp only [World.setRow,Array.getElem?_modify]
 grind
def RL.app:∀ {a b:List LV}{c d:List Value},RL β Z w a c->RL β Z w b d->RL β Z w (a++b) (c++d)
 | [],_,_,_,h,h'=>by simp only [RL] at h;subst h;simpa using h'
 |x::xs,_,_,d,h,h'=>by
  obtain ⟨y,zs,rfl,h3,h4⟩:=h;exact ⟨y,zs++d,rfl,h3,RL.app h4 h'⟩
def RL.drop {l:List LV}{ys:List Value}(h:RL β Z w l ys) (n:Nat):RL β Z w (l.drop n) (ys.drop n):=by
 refine RL.CO (by simp [RL.length h]) λi z hz=>?_
 rw [Ew] at hz|-;exact RL.get _ _ h hz
def RL.take {l:List LV}{ys:List Value}(h:RL β Z w l ys) (n:Nat):RL β Z w (l.take n) (ys.take n):=by simpa using h.take_drop 0 n
def RL.setAt {l cs:List LV}{ys zs:List Value}(h1:RL β Z w l ys) (h2:RL β Z w cs zs) (off:Nat):RL β Z w (setAt l off cs) (ys.take off++zs++ys.drop (off+zs.length)):=by
 have e2:=RL.length h2
 rw [e2];exact RL.app (RL.app (h1.take off) h2) (h1.drop _)
def AR.append {n:Nat}:∀ {a b:List LV},AR n a->AR n b->AR n (a++b)
 | [],_,_,h=>h
 |_::_,_,h,h'=>⟨h.1,AR.append h.2 h'⟩
def AR.drop {n:Nat}{l:List LV}(h:AR n l) (m:Nat):AR n (l.drop m):=by
 refine AR.CO λi x hx=>?_
 rw [Ew] at hx;exact AR.get _ _ h hx
def AR.setAt {n:Nat}{l cs:List LV}(h1:AR n l) (h2:AR n cs) (off:Nat):AR n (setAt l off cs):=by
 refine AR.append (AR.append ?_ h2) (h1.drop _)
 have:=h1.take_drop 0 off;simpa using this
def nI {α:Type}{f:LV->Option α}{l:List LV}{d:α}(h:hd1 f l=some d):∃x,l=[x]/\f x=some d:=by
 unfold hd1 at h;exact jx
def asG {a b:Ty}(h:a=b) (l:List a.D) {y:Value}:R β Z w (.xl b (KI h l)) y↔R β Z w (.xl a l) y:=by subst h;rfl
def uR {e:Ty}{x:LV}{l:List e.D}{y:Value}(h:Mh e x=some l) (hr:R β Z w x y):R β Z w (.xl e l) y:=by
 unfold Mh at h;split at h
 ·split at h
  ·rename_i q h'
   simp only [Ad] at h;subst h;exact (asG q _).2 hr
  ·cases h
 ·simp only [Ad] at h
  simp only [R] at hr|-
  grind
 ·cases h
def tm {Z':Nat->Prop}{w':World}(hZ:∀b,Z b->Z' b) (hw:∀b,Z b->w'.heap[b]? =w.heap[b]?):∀(t:Ty) (cs:List LV) (d:t.D) (ys:List Value),Je t cs=some d->RL β Z w cs ys->∀(b o:Nat),(∀(j:Nat) v,ys[j]? =some v->w'.cell? ⟨b,o+j,none⟩=some v)->RD Z' w' t d b o:=by
 have one:∀ {l:List LV} {ys:List Value} {x:LV},l=[x]->RL β Z w l ys->∀ {b o:Nat},(∀(j:Nat) v,ys[j]? =some v->w'.cell? ⟨b,o+j,none⟩=some v)->∃y,R β Z w x y/\w'.cell? ⟨b,o,none⟩=some y:=by
  intro l ys x hl hr b o hc;subst hl;simp only [RL] at hr;obtain ⟨y,zs,rfl,h1,_⟩:=hr;exact ⟨y,h1,hc 0 y rfl⟩
 intro t
 induction t with
 | int k=>
  intro cs d ys h hr b o hc;obtain ⟨x,hl,hx⟩:=nI h;obtain ⟨y,h1,h2⟩:=one hl hr hc;simp only [RD];rw [h2];unfold aAn at hx;split at hx
  ·exact aLV
  ·exact aLV
  ·cases hx
 |bool=>
  intro cs d ys h hr b o hc;obtain ⟨x,hl,hx⟩:=nI h;obtain ⟨y,h1,h2⟩:=one hl hr hc;simp only [RD];rw [h2];unfold aAo at hx;split at hx
  ·exact x7
  ·exact x7
  ·cases hx
 |str=>
  intro cs d ys h hr b o hc;obtain ⟨x,hl,hx⟩:=nI h;obtain ⟨y,h1,h2⟩:=one hl hr hc;simp only [RD];rw [h2];unfold aAm at hx;split at hx
  ·exact x7
  ·cases hx
 |sl e _=>
  intro cs d ys h hr b o hc;obtain ⟨x,hl,hx⟩:=nI h;obtain ⟨y,h1,h2⟩:=one hl hr hc
  have h3:=uR hx h1
  simp only [R] at h3;obtain ⟨a,cap,g1,g2,g3⟩:=h3;simp only [RD];refine ⟨a,cap,by rw [h2,g1],g2,λhn=>?_⟩
  obtain ⟨b',o',g4,g5,g6⟩:=g3 hn;exact ⟨b',o',g4,hZ _ g5,λi d hd=>RD.mono hZ hw e d b' _ g5 (g6 i d hd)⟩
 | pair p q ihp ihq=>
  intro cs d ys h hr b o hc;simp only [Je] at h;split at h
  ·rename_i x y hx hy
   simp only [Ad] at h;subst h;simp only [RD];refine ⟨ihp _ x _ hx (hr.take p.n) b o (λj v hv=>?_),ihq _ y _ hy (hr.drop p.n) b (o+p.n) (λj v hv=>?_)⟩
   ·exact aMA
   ·rw [Ew] at hv
    grind
  ·cases h
def aeO {t:TypeId} {x q:LV} {y z:Value} {H':List AB} (hW:RW G w0 Z0 Z β H w) (h:(TF P H t x q).all (λr=>r=H')) (hr:R β Z w x y) (hq:R β Z w q z) (hqk:okV H.length q):
  ∃w',(Instr.storeAt t y z).run P w=.ok () w'/\RW G w0 Z0 Z β H' w'/\H'.length=H.length/\(∀b,Z b->w'.heap[b]? =w.heap[b]?)/\DM (DP β H (owns x)) w w':=by
 unfold TF at h;split at h
 ·rename_i n cs hsz hcs
  have e2:=λw=>run_sizeOf hsz w
  obtain ⟨c1,c2⟩:=nQ hcs hq
  have c3:=mq hcs hqk
  have hlen2:=RL.length c1
  split at h
  ·rename_i k off
   split at h
   ·rename_i b hb
    split at h
    ·rename_i hle
     obtain ⟨hcl,hbp,hl1,hl2⟩:=hle;simp only [T.all] at h
     have hbk:b.k=.cl:=by
      unfold AB.Dl at hcl;split at hcl
      ·assumption
      ·cases hcl
     have hlive:live β k b:=by unfold live;rw [hbk];trivial
     obtain ⟨h1,h2⟩:=hW.blk k b hb;unfold BU at h1;simp only [hbk] at h1;obtain ⟨cur,hc,hrl⟩:=h1
     have hlen:=RL.length hrl
     simp only [R] at hr
     have hst:=wR P (β k).b off b.t z.cells.toList 0 cur w hc (by simp at hlen;omega) (λv hv=>ox (c2 v hv))
     have e3:z.cells.size=n:=by simp at hlen2;omega
     have hne:∀j,j≠(β k).b->(w.setRow (β k).b (cur.toList.take (off+0)++z.cells.toList++cur.toList.drop (off+0+z.cells.toList.length)).toArray).heap[j]? =w.heap[j]? :=λj hj=>aBE w _ _ _ hj
     refine ⟨w.setRow (β k).b (cur.toList.take (off+0)++z.cells.toList++cur.toList.drop (off+0+z.cells.toList.length)).toArray,by simp [Instr.storeAt,Instr.sureAddr,hr,storeVar,e2,e3,hst],?_,by rw [<-h];simp,λb' hz=>hne b' (λe=>hW.Cg k b hb hlive hbp (e▸hz)),⟨rfl,rfl,rfl,VQ,λi _ hi=>hne i (λe=>hi (e▸T3 hb hlive hbp))⟩⟩
     rw [<-h];refine hW.set hb hlive hbp hbp ⟨AR.setAt h2.1 c3 off,by simp only [hbk]⟩ VQ ⟨rfl,rfl,rfl⟩ hne ?_
     unfold BU;simp only [hbk];refine ⟨_,setRow_heap w (β k).b cur _ b.t _ hc,?_⟩;refine RL.mono (n:=H.length) (λ_ _=>rfl) (λ_ h=>h) (λb' hz=>hne b' (λe=>hW.Cg k b hb hlive hbp (e▸hz))) _ _ (AR.setAt h2.1 c3 off) ?_
     have:=RL.setAt (β:=β) (Z:=Z) (w:=w) hrl c1 off
     exact OE
    ·cases h
   ·cases h
  ·rename_i k es i j
   split at h
   ·rename_i c0 bt e l hb
    split at h
    ·rename_i hle
     obtain ⟨hes,hl1,hl2⟩:=hle;simp only [T.all] at h;obtain ⟨hi,h⟩:=h;split at h
     ·rename_i d hd
      simp only [T.all] at h;simp only [R] at hr;obtain ⟨hcap,hy⟩:=hr
      have hlive:live β k ⟨c0,bt,.vec e l,false⟩:=hcap
      obtain ⟨h1,h2⟩:=hW.blk k _ hb;simp only [BU] at h1;split at h1
      ·exact xW
      ·rename_i c hc
       obtain ⟨cur,g1,g2,g3,g4⟩:=h1;subst hes
       have hmul:i*e.n+e.n<=c*e.n:=by
        have:=Mr e.n (show i+1<=c by omega)
        rwa [Ft,SH] at this
       have e3:z.cells.size=n:=by simp at hlen2;omega
       have hzl:z.cells.toList.length=n:=by simpa using e3
       have hst:=wR P (β k).b ((β k).o+i*e.n+j) bt z.cells.toList 0 cur w g1 (by rw [hzl];omega) (λv hv=>ox (c2 v hv))
       simp only [ZU] at hst;generalize hnew:(cur.toList.take ((β k).o+i*e.n+j)++z.cells.toList++cur.toList.drop ((β k).o+i*e.n+j+z.cells.toList.length)).toArray=new at hst
       have hnget:∀p,new[p]? =if p<(β k).o+i*e.n+j then cur[p]? else if p<(β k).o+i*e.n+j+n then z.cells.toList[p-((β k).o+i*e.n+j)]? else cur[p]? :=λp=>by
        rw [<-hnew]
        by_cases q1:p<(β k).o+i*e.n+j
        ·exact aLS
        ·rw [AD q1]
         simp only [ZI]
         by_cases q2:p<(β k).o+i*e.n+j+n
         ·exact aLO
         ·rw [AD q2,Fu Cn,Ew]
          have:(β k).o+i*e.n+j+z.cells.toList.length+(p-(cur.toList.take ((β k).o+i*e.n+j)++z.cells.toList).length)=p:=by
           simp
           omega
          rw [this]
          simp
       have hnsz:new.size=cur.size:=by
        rw [<-hnew]
        simp
        omega
       have hne:∀q,q≠(β k).b->(w.setRow (β k).b new).heap[q]? =w.heap[q]? :=λq hq=>aBE w _ _ _ hq
       have hZw:∀b',Z b'->(w.setRow (β k).b new).heap[b']? =w.heap[b']? :=λb' hz=>hne b' (λe=>hW.Cg k _ hb hlive rfl (e▸hz))
       have hblk:=setRow_heap w (β k).b cur new bt _ g1
       refine ⟨w.setRow (β k).b new,by simp [Instr.storeAt,Instr.sureAddr,hy,storeVar,e2,e3,hst],?_,by rw [<-h];simp,hZw,⟨rfl,rfl,rfl,VQ,λq _ hq=>hne q (λe=>hq (e▸T3 hb hlive rfl))⟩⟩
       rw [<-h];refine hW.set hb hlive rfl rfl ⟨trivial,trivial⟩ VQ ⟨rfl,rfl,rfl⟩ hne ?_;simp only [BU,hc];refine ⟨new,hblk,A0,by rw [Br];exact g3,λi' d' hd'=>?_⟩
       by_cases hii:i'=i
       ·subst hii
        have hdd:d'=d:=by
         rw [List.getElem?_set_self (by exact hi)] at hd'
         simpa using hd'.symm
        subst hdd
        have hcells:∃ys,RL β Z w (Bk e (l.getD i' e.dflt)) ys/\∀p,ys[p]? =if p<e.n then cur[(β k).o+i'*e.n+p]? else none:=by
         have hrd:=g4 i' _ (getD_at hi)
         refine ⟨((cur.toList.drop ((β k).o+i'*e.n)).take e.n),RL.CO ?_ λp x hx=>?_,λp=>?_⟩
         ·rw [Jr];simp;omega
         ·obtain ⟨v,q1,q2⟩:=Wb (β:=β) e _ _ _ hrd p x hx
          have hp:p<e.n:=by have:=(Du.1 hx).1;rwa [Jr] at this
          refine ⟨v,?_,q2⟩;rw [cell_of_block g1] at q1;rw [Kq,AE hp,Ew]
          simpa using q1
         ·rw [Kq,Ew]
          simp
        obtain ⟨ys,y1,y2⟩:=hcells
        have hset:=RL.setAt y1 c1 j
        refine tm (λ_ h=>h) hZw e _ d' _ hd hset _ _ (λp v hv=>?_)
        rw [cell_of_block hblk,hnget]
        have hyl:ys.length=e.n:=by have:=RL.length y1;rw [Jr] at this;exact this
        by_cases p1:p<j
        ·rw [AE A0]
         rw [CZ,HN Cn,aK4 p1,y2] at hv;rw [AE A0] at hv;exact hv
        ·by_cases p2:p<j+n
         ·rw [AD A0,AE A0]
          rw [HN Cn,Fu Cn] at hv;rw [<-hv]
          congr 1
          simp
          omega
         ·rw [AD A0,AD A0]
          rw [Fu Cn,Ew,y2] at hv;split at hv
          ·rw [<-hv]
           congr 1
           simp
           omega
          ·cases hv
       ·rw [Uz (OC hii)] at hd'
        refine RD.cells (λ_ h=>h) hZw e d' _ _ (λp hp=>?_) (g4 i' d' hd')
        rw [cell_of_block hblk,cell_of_block g1,hnget]
        have hsep:i'*e.n+e.n<=i*e.n\/i*e.n+e.n<=i'*e.n:=by
         rcases PV i' i with hlt|hge
         ·left
          have:=Mr e.n (show i'+1<=i by omega)
          rwa [Ft,SH] at this
         ·right
          have:=Mr e.n (show i+1<=i' by omega)
          rwa [Ft,SH] at this
        split
        ·rfl
        ·rw [AD A0]
     ·cases h
    ·cases h
   ·cases h
  ·cases h
 ·cases h
end Go.Sx
namespace Go.Sx
open Go.Proofs.YtgmhhjldohjpmaaGreatDoor
open Go Go.RowKit
variable {P : Program} {G : Av} {Γ : Specs} {β : Nat -> Loc} {Z : Nat -> Prop} {Z0 : Gz} {w w0 : World} {F : List LV} {H : List AB} {a : Act}
def RD.move {Z Z':Nat->Prop}{w w':World}(hZ:∀b,Z b->Z' b) (hw:∀b,Z b->w'.heap[b]? =w.heap[b]?):
  ∀(t:Ty) (d:t.D) (b o b' o':Nat),(∀j,j<t.n->w'.cell? ⟨b',o'+j,none⟩=w.cell? ⟨b,o+j,none⟩)->RD Z w t d b o->RD Z' w' t d b' o'
 | .int _,_,b,o,b',o',hb,h=>VL
 | .bool,_,b,o,b',o',hb,h=>VL
 | .str,_,b,o,b',o',hb,h=>VL
 | .sl e,l,b,o,b',o',hb,h=>by
  exact aKp
 | .pair x y,d,b,o,b',o',hb,h=>by
  refine ⟨RD.move hZ hw x d.1 b o b' o' (λj hj=>hb j kQ) h.1,RD.move hZ hw y d.2 b _ b' _ (λj hj=>?_) h.2⟩
  have:=hb (x.n+j) kQ
  grind
def RD.one {Z:Nat->Prop}{w:World}:∀(t:Ty) (d:t.D) (b o:Nat),RD Z w t d b o->∀j,j<t.n->∃v,w.cell? ⟨b,o+j,none⟩=some v/\JY v=true
 | .int _,_,b,o,h,j,hj=>by
  exact x9
 | .bool,_,b,o,h,j,hj=>by
  exact x9
 | .str,_,b,o,h,j,hj=>by
  exact x9
 | .sl e,_,b,o,h,j,hj=>by
  simp only [Ty.n] at hj
  have:j=0:=A0
  subst this;obtain ⟨a,cap,h1,_⟩:=h;exact ⟨_,h1,rfl⟩
 | .pair x y,d,b,o,h,j,hj=>by
  simp only [Ty.n] at hj
  by_cases hx:j<x.n
  ·exact RD.one x d.1 b o h.1 j hx
  ·obtain ⟨v,h1,h2⟩:=RD.one y d.2 b (o+x.n) h.2 (j-x.n) A0
   grind
def Ty.n_pos:∀t:Ty,0<t.n
 | .int _=>Zs
 | .bool=>Zs
 | .str=>Zs
 | .sl _=>Zs
 | .pair a b=>by have:=Ty.n_pos a;simp only [Ty.n];omega
def aDE {e:Ty}{l:List e.D}{b o:Nat}(h:∀(i:Nat) (d:e.D),l[i]? =some d->RD Z w e d b (o+i*e.n)):
  ∃vs:List Value,vs.length=List.length l*e.n/\(∀j,j<List.length l*e.n->w.cell? ⟨b,o+j,none⟩=vs[j]?)/\(∀u∈vs,JY u=true):=by
 have hp:=e.n_pos
 have hch:∀j,∃v,j<List.length l*e.n->w.cell? ⟨b,o+j,none⟩=some v/\JY v=true:=λj=>by
  by_cases hj:j<List.length l*e.n
  ·have hi:=Nat.div_lt_of_lt_mul (by rw [Nat.mul_comm];exact hj)
   have hd:=h (j / e.n) _ (getD_at hi)
   obtain ⟨v,h1,h2⟩:=RD.one e _ _ _ hd (j%e.n) (Nat.mod_lt _ hp);refine ⟨v,λ_=>⟨?_,h2⟩⟩
   have:=Nat.div_add_mod j e.n
   grind
  ·exact ⟨undef,λh=>absurd h hj⟩
 obtain ⟨g,hg⟩:=wZ hch;refine ⟨(List.range (List.length l*e.n)).map g,AJ,λj hj=>?_,λu hu=>?_⟩
 ·grind
 ·obtain ⟨j,hj,rfl⟩:=Eg.1 hu
  grind
def aDa {Z':Nat->Prop}{w':World}(hZ:∀b,Z b->Z' b) (hw:∀b,Z b->w'.heap[b]? =w.heap[b]?) {e:Ty}{l:List e.D}{b o b' o':Nat}(h:∀(i:Nat) (d:e.D),l[i]? =some d->RD Z w e d b (o+i*e.n)) {vs:List Value}
  (hv:∀j,j<List.length l*e.n->w.cell? ⟨b,o+j,none⟩=vs[j]?) (hc:∀j,j<List.length l*e.n->w'.cell? ⟨b',o'+j,none⟩=vs[j]?):∀(i:Nat) (d:e.D),l[i]? =some d->RD Z' w' e d b' (o'+i*e.n):=λi d hd=>by
 have hi:=(Du.1 hd).1
 refine RD.move hZ hw e d b (o+i*e.n) b' (o'+i*e.n) (λj hj=>?_) (h i d hd)
 have hlt:i*e.n+j<List.length l*e.n:=by
  have:=Mr e.n (show i+1<=List.length l by omega)
  rw [Ft,SH] at this;omega
 grind
def ant {e:Ty}{x:LV}{q:List e.D}{y:Value}(hW:RW G w0 Z0 Z β H w) (h:(F6 H e x).all (λz=>z=q)) (hr:R β Z w x y):
  ∃a c,y=.slice a (List.length q) c/\(0<List.length q->∃b o,a=some ⟨b,o,none⟩/\∀(i:Nat) (d:e.D),q[i]? =some d->RD Z w e d b (o+i*e.n)):=by
 have gen:∀x,Mh e x=some q->R β Z w x y->∃a c,y=.slice a (List.length q) c/\(0<List.length q->∃b o,a=some ⟨b,o,none⟩/\∀(i:Nat) (d:e.D),q[i]? =some d->RD Z w e d b (o+i*e.n)):=λx hx hr=>by
  have h1:=uR hx hr
  obtain ⟨a,c,h1,_,h3⟩:=h1;refine ⟨a,c,h1,λhn=>?_⟩
  grind
 have hdx:∀ {x:LV},(match Mh e x with|some l=>(T.ok l:T (List e.D)) |none=> .no).all (λz=>z=q)->Mh e x=some q:=λ{x} h=>by
  split at h
  ·rename_i hd;simp only [T.all] at h;rw [hd,h]
  ·cases h
 cases x with
 | os k es off n=>
  simp only [F6] at h;split at h
  ·rename_i c0 bt e' l pp hb
   split at h
   ·rename_i hes
    split at h
    ·rename_i he _
     subst he;simp only [T.all,KI] at h;obtain ⟨hle,h⟩:=h;subst h
     have hlen:List.length ((l.drop off).take n)=n:=AA
     rw [hlen];simp only [R] at hr;split at hr
     ·obtain ⟨rfl,_,hy⟩:=hr
      grind
     ·rename_i c hc
      obtain ⟨h1,a,h2,h3⟩:=hr;refine ⟨some a,c-off,h2,λhn=>?_⟩
      have h4:=(hW.blk k _ hb).1
      simp only [BU,hc] at h4;obtain ⟨cs,g1,g2,g3,g4⟩:=h4;refine ⟨_,_,by rw [h3 A0],λi d hd=>?_⟩
      rw [Kq] at hd;split at hd
      ·rw [Ew] at hd
       have:=g4 (off+i) d hd
       rw [<-hes];rw [Ft,<-HL] at this;exact this
      ·cases hd
    ·cases h
   ·cases h
  ·cases h
 |v x=>simp only [F6] at h;exact gen _ (hdx h) hr
 |bl x=>simp only [F6] at h;exact gen _ (hdx h) hr
 |ki k n=>simp only [F6] at h;exact gen _ (hdx h) hr
 |own k off=>simp only [F6] at h;exact gen _ (hdx h) hr
 |agg l=>simp only [F6] at h;exact gen _ (hdx h) hr
 |AM l=>simp only [F6] at h;exact gen _ (hdx h) hr
 |fn f l=>simp only [F6] at h;exact gen _ (hdx h) hr
 |fb f l=>simp only [F6] at h;exact gen _ (hdx h) hr
 |xq n f=>simp only [F6] at h;exact gen _ (hdx h) hr
 |xl e l=>simp only [F6] at h;exact gen _ (hdx h) hr
 |op k es i j=>simp only [F6] at h;exact gen _ (hdx h) hr
 |om k=>simp only [F6] at h;exact gen _ (hdx h) hr
 |mp kd ks vs=>simp only [F6] at h;exact gen _ (hdx h) hr
 |oc k es off n c=>simp only [F6] at h;exact gen _ (hdx h) hr
 |CN k=>simp only [F6] at h;exact gen _ (hdx h) hr
 |junk=>simp only [F6] at h;exact gen _ (hdx h) hr
def mT {t e:TypeId}{ty:Ty}{m Ep:Nat}(h:PF P t=some (e,ty,m,Ep)):P.underlying t=some (.slice e)/\ty.n=m/\∃i,P.info? e=some i/\i.size=m/\i.bytes=Ep:=by
 unfold PF at h;split at h
 ·rename_i e' hu
  split at h
  ·rename_i ty' m' b' h1 h2 h3
   split at h
   ·rename_i hm
    simp only [Ad,Aq] at h;obtain ⟨rfl,rfl,rfl,rfl⟩:=h;refine ⟨hu,hm.1,?_⟩;unfold Gq at h2;unfold aQz at h3;cases hi:P.info? e' with
    |none=>simp [hi] at h2
    |some i=>simp [hi] at h2 h3;exact ⟨i,rfl,h2,h3⟩
   ·cases h
  ·cases h
 ·cases h
def aD8 {e:Ty}{x:LV}{q:List e.D}{y:Value}{tx e':TypeId}(hk:P.underlying tx=some (.slice e')) (hW:RW G w0 Z0 Z β H w) (h:(F6 H e x).all (λz=>z=q)) (hr:R β Z w x y):
  ∃news:List Value,Src P e.n tx y (List.length q) news w/\∀(Z':Nat->Prop) (w':World) (b' o':Nat),(∀b,Z b->Z' b)->(∀b,Z b->w'.heap[b]? =w.heap[b]?)->(∀j,j<news.length->w'.cell? ⟨b',o'+j,none⟩=news[j]?)->∀(i:Nat) (d:e.D),q[i]? =some d->RD Z' w' e d b' (o'+i*e.n):=by
 obtain ⟨a,c,h1,h2⟩:=ant hW h hr
 by_cases hn:0<List.length q
 ·obtain ⟨b,o,h3,h4⟩:=h2 hn
  obtain ⟨vs,v1,v2,v3⟩:=aDE h4;refine ⟨vs,?_,λZ' w' b' o' hZ hw hc=>aDa hZ hw h4 v2 (λj hj=>hc j A0)⟩
  rw [h1,h3]
  exact Src.ofSlice w hk ⟨b,o,none⟩ _ c vs v1 (λj u hu=>by
   have hj:j<List.length q*e.n:=AA
   rw [addr_add,v2 j hj,hu]) (λu hu=>ox (v3 u hu))
 ·have hq:q=[]:=Lw.1 A0
  subst hq;refine ⟨[],?_,λZ' w' b' o' hZ hw hc i d hd=>AA⟩
  rw [h1];cases a with
  |none=>exact Src.ofNil w hk c
  |some a=>exact Src.ofSlice w hk a 0 c [] AJ (λj u hu=>AA) (λu hu=>by cases hu)
def ag1 {ty:Ty}{z:Value}{d:ty.D}(hd:Je ty (z.cells.toList.map .v)=some d) {w':World}{b o:Nat}(hc:∀(j:Nat) v,z.cells.toList[j]? =some v->w'.cell? ⟨b,o+j,none⟩=some v):RD Z w' ty d b o:=
 tm (Z:=Z) (w:=w') (β:=λ_=>default) (λ_ h=>h) (λ_ _=>rfl) ty _ d _ hd (UZ _) b o hc
def ael {t:TypeId} {n c lv:LV} {vn vc:Value} {H':List AB} (hW:RW G w0 Z0 Z β H w) (h:(Te P H t n c).all (λq=>q=(lv,H'))) (hn:R β Z w n vn) (hc:R β Z w c vc):
  ∃w' v,(Instr.makeSlice t vn vc).run P w=.ok v w'/\Below w.heap.size w w'/\∃β',(∀k,k<H.length->β' k=β k)/\RW G w0 Z0 Z β' H' w'/\R β' Z w' lv v/\okV H'.length lv/\H'.length=H.length+1/\(β' H.length).b=w.heap.size:=by
 unfold Te at h;split at h
 ·rename_i e ty m Ep n' c' he hn' hc'
  obtain ⟨hu,htn,i,hi,him,hib⟩:=mT he;split at h
  ·rename_i z hz
   split at h
   ·rename_i d hd
    split at h
    ·rename_i hzs
     simp only [T.all] at h;obtain ⟨⟨h0,h1,h2,h3⟩,h4⟩:=h;obtain ⟨rfl,rfl⟩:=h4
     have hzi:i.zero=some z:=aMm
     have hrun:=run_make (P:=P) w t e i z hu hi hzi .i64 .i64 n' c' h0 h1 (by rw [hib];simpa using h2) A0
     rw [Cb hn' hn,Cb hc' hc]
     have hbw:Below w.heap.size w (w.alloc (.cells (madeCells z.cells (c'.toNat*i.size)) e)):=(Below.refl _ _).alloc (At _) _
     have hblk:(w.alloc (.cells (madeCells z.cells (c'.toNat*i.size)) e)).heap[w.heap.size]? =some (.cells (madeCells z.cells (c'.toNat*i.size)) e (0,0)):=by
      exact Zj
     obtain ⟨β',b1,b2,b3⟩:=(hW.same hbw).KJ (ℓ:=⟨w.heap.size,0,some c'.toNat⟩) (nb:=⟨[],e,.vec ty (List.replicate n'.toNat d),false⟩) rfl ⟨trivial,trivial⟩
      (λ_=>⟨λhz=>Zz,hW.below.size,λj bj hj lj e=>SS⟩) (λβ' g1 g2=>by
       simp only [BU,g2];refine ⟨_,hblk,by simp [madeCells,htn,him],Cn,λj d' hd'=>?_⟩
       have hj:j<n'.toNat:=AA
       have hdd:d'=d:=AA
       subst hdd;refine ag1 hd (λp v hv=>?_)
       have hp:p<m:=AA
       rw [cell_of_block hblk]
       have hlt:0+j*ty.n+p<c'.toNat*i.size:=by
        have:=Mr m (show j+1<=c'.toNat by omega)
        rw [Ft,SH] at this;rw [htn,him];omega
       rw [madeCells]
       have hv':z.cells[p]? =some v:=by simpa using hv
       rw [htn,EK] at hlt|-;simp only [Array.getElem?_map,Array.getElem?_range];rw [AE hlt];simp only [JH,hzs,Nat.mul_comm j m,Nat.mul_add_mod,Nat.mod_eq_of_lt hp];rw [getElem!_def,hv'])
     exact ⟨_,_,hrun,hbw,β',b1,b3,by simp only [R,b2];exact ⟨Cn,⟨w.heap.size,0,none⟩,AJ,λ_=>AJ⟩,Lz,AJ,VZ⟩
    ·cases h
   ·cases h
  ·cases h
 ·cases h
def aeQ {t:TypeId}{lv:LV}{H':List AB}(hW:RW G w0 Z0 Z β H w) (h:(Wc P H t).all (λq=>q=(lv,H'))):
  ∃w' v,(Instr.buildSlice t 0 #[]).run P w=.ok v w'/\Below w.heap.size w w'/\∃β',(∀k,k<H.length->β' k=β k)/\RW G w0 Z0 Z β' H' w'/\R β' Z w' lv v/\okV H'.length lv/\H'.length=H.length+1/\(β' H.length).b=w.heap.size:=by
 unfold Wc at h;split at h
 ·rename_i e ty m Ep he
  obtain ⟨hu,htn,i,hi,him,hib⟩:=mT he;obtain ⟨rfl,rfl⟩:=h
  have hbw:Below w.heap.size w (w.alloc (.cells #[] e)):=(Below.refl _ _).alloc (At _) _
  have hblk:(w.alloc (.cells #[] e)).heap[w.heap.size]? =some (.cells #[] e (0,0)):=by
   exact Zj
  obtain ⟨β',b1,b2,b3⟩:=(hW.same hbw).KJ (ℓ:=⟨w.heap.size,0,some 0⟩) (nb:=⟨[],e,.vec ty [],false⟩) rfl ⟨trivial,trivial⟩
   (λ_=>⟨λhz=>Zz,hW.below.size,λj bj hj lj e=>SS⟩) (λβ' g1 g2=>by
    simp only [BU,g2];exact ⟨_,hblk,AJ,AJ,λj d hd=>AA⟩)
  have hsz:Gq P e=some m:=by unfold Gq;simp [hi,him]
  refine ⟨_,.slice (some ⟨w.heap.size,0,none⟩) 0 0,?_,hbw,β',b1,b3,by simp only [R,b2];exact ⟨AJ,⟨w.heap.size,0,none⟩,rfl,λh=>AA⟩,Lz,AJ,VZ⟩
  have e1:=λw=>run_sizeOf hsz w
  have n1:¬(0>2^24):=Aa
  have ha:∀f:Nat->Value,(Array.range 0).map f=#[]:=λf=>AJ
  simp only [Instr.buildSlice,jd,CT hu,j8,e1,jM,wP,newRow,AD n1,Bm,ha];rfl
 ·cases h
def RW.kill (hW:RW G w0 Z0 Z β H w) (k:Nat) (e:TypeId):RW G w0 Z0 Z β (H.set k ⟨[],e,.dead,false⟩) w:=by
 have old:∀i bi,(H.set k ⟨[],e,.dead,false⟩)[i]? =some bi->(¬live β i bi/\BU β Z w i bi/\okB H.length bi)\/H[i]? =some bi:=λi bi h=>by
  rw [HI] at h;split at h
  ·rename_i e'
   split at h
   ·simp only [Ad] at h;subst h;exact .inl ⟨λh=>h,trivial,trivial,trivial⟩
   ·cases h
  ·exact .inr h
 refine ⟨hW.below,hW.BV,hW.ES,λi bi hi li pi=>?_,λi bi hi li pi=>?_,λi bi hi li=>?_,λi j bi bj hi hj li lj pi e=>?_,λi bi hi=>?_,hW.CV,λp hp=>⟨(hW.gh p hp).1,aNW⟩,hW.Ci⟩
 ·rcases old i bi hi with h|h
  ·grind
  ·exact hW.Cg i bi h li pi
 ·rcases old i bi hi with h|h
  ·grind
  ·exact hW.G0 i bi h li pi
 ·rcases old i bi hi with h|h
  ·grind
  ·exact hW.low i bi h li
 ·rcases old i bi hi with h|h
  ·grind
  ·rcases old j bj hj with h'|h'
   ·grind
   ·exact hW.inj i j bi bj h h' li lj pi e
 ·rw [Br]
  rcases old i bi hi with h|h
  ·grind
  ·exact hW.blk i bi h
def RW.loose {w':World}{B:Nat}(hW:RW G w0 Z0 Z β H w) (hB:w0.heap.size<=B) (hBZ:¬Z B) (hBo:∀j bj,H[j]? =some bj->live β j bj->(β j).b≠B)
  (hsz:w'.heap.size=w.heap.size) (hos:w'.os=w.os/\w'.tape=w.tape/\w'.output=w.output) (hne:∀j,j≠B->w'.heap[j]? =w.heap[j]?):RW G w0 Z0 Z β H w':=by
 have hw:∀b',Z b'->w'.heap[b']? =w.heap[b']? :=λb' hz=>hne b' (λe=>hBZ (e▸hz))
 refine ⟨?_,λb' hz=>aNV,hW.ES,hW.Cg,hW.G0,hW.low,hW.inj,λi bi hi=>?_,hW.CV.mono (λ_ h=>h) hw,λp hp=>⟨R.mono (n:=H.length) (λ_ _=>rfl) (λ_ h=>h) hw _ _ (hW.gh p hp).2 (hW.gh p hp).1,(hW.gh p hp).2⟩,λD hD=>⟨(hW.Ci D hD).1,Zm⟩⟩
 ·exact hW.below.trans ⟨hos.1,hos.2.1,hos.2.2,jL hsz.symm,λi hi=>hne i A0⟩
 ·obtain ⟨g1,g2⟩:=hW.blk i bi hi
  exact ⟨g1.keep (λ_ _=>rfl) (λ_ h=>h) hw rfl (λli=>hne _ (hBo i bi hi li)) g2,g2⟩
def aeA (z:Array Value) (n:Nat):(Builtin.zeroCells z n).size=n*z.size:=by simp [Builtin.zeroCells]
def Back (Z:Nat->Prop) (w:World) (e:Ty) (l:List e.D) (vs:List Value):Prop:=
 ∀(Z':Nat->Prop) (w':World) (b' o':Nat),(∀b,Z b->Z' b)->(∀b,Z b->w'.heap[b]? =w.heap[b]?)->(∀j,j<vs.length->w'.cell? ⟨b',o'+j,none⟩=vs[j]?)->∀(i:Nat) (d:e.D),l[i]? =some d->RD Z' w' e d b' (o'+i*e.n)
def aCY (hW:RW G w0 Z0 Z β H w) {t tx ty' e:TypeId}{i:TypeInfo}{z:Value}(hu:P.underlying t=some (.slice e)) (hi:P.info? e=some i) (hz:i.zero=some z) {ty:Ty}(hts:i.size=ty.n) (hzs:z.cells.size=ty.n)
  {base:Option Addr} {sCap:Nat} {olds:List Value} {lo q:List ty.D} (hold:(Builtin.firstCells i.size (List.length lo) (.slice base (List.length lo) sCap)).run P w.drew=.ok olds.toArray w.drew) (hol:olds.length=List.length lo*ty.n)
  (ob:Back Z w ty lo olds) {y:Value} {news:List Value} (hs:Src P ty.n tx y (List.length q) news w) (nb:Back Z w ty q news) (hg:sCap<List.length lo+List.length q)
  (h63:((List.length lo+List.length q:Nat):Int)<2^62) (hby:((List.length lo+List.length q:Nat):Int)*i.bytes<=2^47):
  ∃w' v,(Builtin.append_ #[t,tx] ty' #[.slice base (List.length lo) sCap,y]).run P w=.ok v w'/\Below w.heap.size w w'/\∃β',(∀k,k<H.length->β' k=β k)/\RW G w0 Z0 Z β' (H++[⟨[],e,.vec ty (lo++q),false⟩]) w'/\
   R β' Z w' (.os H.length ty.n 0 (List.length lo+List.length q)) v/\(β' H.length).b=w.heap.size:=by
 have hnl:=hs.newsLen
 have hrun:=run_append_grow_src (P:=P) w t tx ty' e i z hu hi hz base (List.length lo) sCap olds hold y (List.length q) news (by rw [hts];exact hs) hg A0 (growslice_fits hg (by
  omega))
 have hcap:=grownCap_ge w (List.length lo+List.length q) sCap e
 generalize grownCap w (List.length lo+List.length q) sCap e=cap at hrun hcap;generalize hcs:((olds++news).toArray++Builtin.zeroCells z.cells (cap-(List.length lo+List.length q)))=cs at hrun
 have hbw:Below w.heap.size w (w.drew.alloc (.cells cs e)):=⟨rfl,rfl,rfl,by simp [World.alloc],λk hk=>heap_alloc_old w.drew _ hk⟩
 have hblk:(w.drew.alloc (.cells cs e)).heap[w.heap.size]? =some (.cells cs e (0,0)):=heap_alloc_new w.drew _
 have hw:∀b,Z b->(w.drew.alloc (.cells cs e)).heap[b]? =w.heap[b]? :=λb hz=>Dx hbw (hW.BV b hz)
 have hc1:∀j,j<olds.length->cs[j]? =olds[j]? :=λj hj=>by
  rw [<-hcs,wW Cn];simp only [ZI]
  grind
 have hc2:∀j,j<news.length->cs[olds.length+j]? =news[j]? :=λj hj=>by
  rw [<-hcs,wW Cn];simp only [ZI];rw [Fu A0]
  congr 1
  omega
 obtain ⟨β',b1,b2,b3⟩:=(hW.same hbw).KJ (ℓ:=⟨w.heap.size,0,some cap⟩) (nb:=⟨[],e,.vec ty (lo++q),false⟩) rfl ⟨trivial,trivial⟩
  (λ_=>⟨λhz=>AA,hW.below.size,λj bj hj lj e=>SS⟩) (λβ' g1 g2=>by
   simp only [BU,g2];refine ⟨cs,hblk,?_,by rw [B0];omega,λj d hd=>?_⟩
   ·rw [<-hcs]
    have h1:cap*ty.n=(List.length lo+List.length q)*ty.n+(cap-(List.length lo+List.length q))*ty.n:=by
     rw [<-Ft];congr 1;omega
    simp only [Array.size_append,aeA,hzs,List.size_toArray,B0,hol,hnl];rw [h1,Ft];omega
   ·by_cases hj:j<List.length lo
    ·rw [HN hj] at hd
     exact ob Z _ w.heap.size 0 (λ_ h=>h) hw (λp hp=>by rw [cell_of_block hblk,EK,hc1 p hp]) j d hd
    ·rw [Fu A0] at hd
     have:=nb Z _ w.heap.size (0+olds.length) (λ_ h=>h) hw (λp hp=>by rw [cell_of_block hblk,EK,hc2 p hp]) _ d hd
     rw [hol,EK,<-Ft] at this;rw [show List.length lo+(j-List.length lo)=j by omega] at this
     rw [EK];exact this)
 exact ⟨_,_,hrun,hbw,β',b1,b3,aMV,VZ⟩
def size_setCells (b:Nat):∀(vs:List Value) (o:Nat) (w:World),(w.setCells b o vs).heap.size=w.heap.size
 | [],_,_=>rfl
 |v::r,o,w=>by rw [World.setCells,size_setCells b r];simp
def adU (b:Nat):∀(vs:List Value) (o:Nat) (w:World),(w.setCells b o vs).tape=w.tape
 | [],_,_=>rfl
 |v::r,o,w=>by rw [World.setCells,adU b r];rfl
def ae7 (w:World) (g o:Nat) (vs:List Value) {i:Nat}(hne:i≠g):(w.setCells g o vs).heap[i]? =w.heap[i]? :=by
 by_cases hi:i<w.heap.size
 ·exact World.heap_setCells_other w g o vs hi hne
 ·rw [wb (by rw [size_setCells];omega),wb A0]
def adR (b:Nat) (t:TypeId):∀(vs:List Value) (o:Nat) (w:World) (cs:Array Value),w.heap[b]? =some (.cells cs t (0,0))->∃cs',(w.setCells b o vs).heap[b]? =some (.cells cs' t (0,0))/\cs'.size=cs.size
 | [],_,w,cs,h=>⟨cs,h,rfl⟩
 | v::r,o,w,cs,h=>by
  have h1:(w.setCell ⟨b,o,none⟩ v).heap[b]? =some (.cells (cs.setIfInBounds o v) t (0,0)):=by
   simp [World.setCell,Array.getElem?_modify,h]
  obtain ⟨cs',h2,h3⟩:=adR b t r (o+1) _ _ h1;exact ⟨cs',h2,AA⟩
def aeu (hW:RW G w0 Z0 Z β H w) {t tx ty' e:TypeId}{i:TypeInfo}(hu:P.underlying t=some (.slice e)) (hkx:∃e',P.underlying tx=some (.slice e')) (hi:P.info? e=some i) {ty:Ty}(him:i.size=ty.n)
  {B O c:Nat} {ad:Addr} {lo q:List ty.D} {cs:Array Value} (g1:w.heap[B]? =some (.cells cs e (0,0))) (g2:O+c*ty.n<=cs.size) (had:0<c->ad=⟨B,O,none⟩)
  (hB0:w0.heap.size<=B) (hBZ:¬Z B) (hBo:∀j bj,H[j]? =some bj->live β j bj->(β j).b≠B)
  (olde:∀(j:Nat) (d:ty.D),lo[j]? =some d->RD Z w ty d B (O+j*ty.n)) {y:Value} {news:List Value} (hs:Src P ty.n tx y (List.length q) news w) (nb:Back Z w ty q news) (hroom:List.length lo+List.length q<=c):
  ∃w' v,(Builtin.append_ #[t,tx] ty' #[.slice (some ad) (List.length lo) c,y]).run P w=.ok v w'/\(w'.os=w.os/\w'.tape=w.tape/\w'.output=w.output/\w'.heap.size=w.heap.size)/\(∀j,j≠B->w'.heap[j]? =w.heap[j]?)/\
   ∃β',(∀k,k<H.length->β' k=β k)/\RW G w0 Z0 Z β' (H++[⟨[],e,.vec ty (lo++q),false⟩]) w'/\R β' Z w' (.os H.length ty.n 0 (List.length lo+List.length q)) v/\(β' H.length).b=B:=by
 have hnl:=hs.newsLen
 have hmr:List.length lo*ty.n+List.length q*ty.n<=c*ty.n:=by rw [<-Ft];exact Mr _ hroom
 have hrun:(Builtin.append_ #[t,tx] ty' #[.slice (some ad) (List.length lo) c,y]).run P w=.ok (.slice (some ad) (List.length lo+List.length q) c) (w.setCells B (O+List.length lo*ty.n) news):=by
  by_cases hc0:0<c
  ·rw [had hc0]
   have:=run_append_room_src (P:=P) w t tx ty' e i hu hi B O (List.length lo) c y (List.length q) news (by rw [him];exact hs) hroom (λj hj=>by
    rw [cell_of_block g1,him]
    have:O+List.length lo*ty.n+j<cs.size:=A0
    simp [this]) (λj hj=>azy g1 _)
   rw [him] at this;exact this
  ·have hn0:List.length lo=0:=A0
   have hq0:List.length q=0:=A0
   have hnn:news=[]:=Lw.1 (by rw [hnl,hq0];simp)
   have hl:=hs.len
   have hc:=hs.cells
   rw [hq0] at hl hc;subst hnn;rw [hq0,hn0];obtain ⟨e',hk⟩:=hkx
   simp [Builtin.append_,CT hu,CT hk,sizeOf,typeInfo,hi,hl,him,hc,World.setCells,storeCells]
 have hne:∀j,j≠B->(w.setCells B (O+List.length lo*ty.n) news).heap[j]? =w.heap[j]? :=λj hj=>ae7 w _ _ _ hj
 have hZw:∀b',Z b'->(w.setCells B (O+List.length lo*ty.n) news).heap[b']? =w.heap[b']? :=λb' hz=>hne b' (λe=>hBZ (e▸hz))
 have hin:=World.cell?_setCells_in B news (O+List.length lo*ty.n) w (λj hj=>by
  rw [cell_of_block g1]
  have:O+List.length lo*ty.n+j<cs.size:=A0
  simp [this])
 have hout:=λj (hj:j<O+List.length lo*ty.n)=>World.cell?_setCells_out B news (O+List.length lo*ty.n) w ⟨B,j,none⟩ (λ_ _=> .inl hj)
 obtain ⟨cs',q1,q2⟩:=adR B e news (O+List.length lo*ty.n) w cs g1
 have hos:=World.os_setCells w B (O+List.length lo*ty.n) news
 have hot:=World.output_setCells w B (O+List.length lo*ty.n) news
 have htp:=adU B news (O+List.length lo*ty.n) w
 have hsz:=size_setCells B news (O+List.length lo*ty.n) w
 generalize w.setCells B (O+List.length lo*ty.n) news=w' at hrun hne hZw hin hout q1 hos hot htp hsz
 have hW2:=hW.loose hB0 hBZ hBo hsz ⟨hos,htp,hot⟩ hne
 obtain ⟨β',b1,b2,b3⟩:=hW2.KJ (ℓ:=⟨B,O,some c⟩) (nb:=⟨[],e,.vec ty (lo++q),false⟩) rfl ⟨trivial,trivial⟩ (λ_=>⟨hBZ,hB0,hBo⟩) (λβ' f1 f2=>by
  simp only [BU,f2];refine ⟨cs',q1,A0,by rw [B0];exact hroom,λj d hd=>?_⟩
  by_cases hj:j<List.length lo
  ·rw [HN hj] at hd
   refine RD.move (λ_ h=>h) hZw ty d _ _ _ _ (λp hp=>?_) (olde j d hd)
   have:=Mr ty.n (show j+1<=List.length lo by omega)
   rw [Ft,SH] at this;exact hout _ A0
  ·rw [Fu A0] at hd
   have:=nb Z w' B (O+List.length lo*ty.n) (λ_ h=>h) hZw (λp hp=>by rw [hin p hp,DF hp]) _ d hd
   rw [HL O,<-Ft,show List.length lo+(j-List.length lo)=j by omega] at this
   exact this)
 refine ⟨w',_,hrun,⟨hos,htp,hot,hsz⟩,hne,β',b1,b3,?_,VZ⟩;simp only [R,b2]
 grind
def T.Ay {α γ:Type}{t:T α}{k:α->T γ}{y:γ}(h:(t.bind k).all (λz=>z=y)):∃x,t.all (λz=>z=x)/\(k x).all (λz=>z=y):=by
 rw [T.all_bind] at h;obtain ⟨x,h1,h2⟩:=T.pick h
 grind
def aeJ {t tx ty':TypeId} {x y lv:LV} {vx vy:Value} {H':List AB} (hW:RW G w0 Z0 Z β H w) (h:(L3 P H t tx x y).all (λq=>q=(lv,H'))) (hx:R β Z w x vx) (hy:R β Z w y vy):
  ∃w' v,(Builtin.append_ #[t,tx] ty' #[vx,vy]).run P w=.ok v w'/\DM (DP β H (owns x)) w w'/\(∀b,Z b->w'.heap[b]? =w.heap[b]?)/\∃β',(∀k,k<H.length->β' k=β k)/\RW G w0 Z0 Z β' H' w'/\R β' Z w' lv v/\okV H'.length lv/\
   H'.length=H.length+1/\(w.heap.size<=(β' H.length).b\/(β' H.length).b∈DP β H (owns x)):=by
 unfold L3 at h;split at h
 ·rename_i e ty m Ep he
  obtain ⟨hu,htn,i,hi,him,hib⟩:=mT he;split at h
  ·rename_i e2 z hkx hz
   have hzi:i.zero=some z:=aMm
   split at h
   ·rename_i hzs
    obtain ⟨q,hq,hnew⟩:=T.Ay h
    clear h
    have h:=hnew
    clear hnew
    ·obtain ⟨news,hs,nb⟩:=aD8 hkx hW hq hy
     have hnl:=hs.newsLen
     subst htn
     have nil:∀(H1:List AB),RW G w0 Z0 Z β H1 w->(List.length q:Int)*Ep<=2^47->(List.length q:Int)<2^62->
       ∃w' v,(Builtin.append_ #[t,tx] ty' #[.slice none 0 0,vy]).run P w=.ok v w'/\Below w.heap.size w w'/\∃β',(∀k,k<H1.length->β' k=β k)/\RW G w0 Z0 Z β' (H1++[⟨[],e,.vec ty q,false⟩]) w'/\R β' Z w' (.os H1.length ty.n 0 (List.length q)) v/\(β' H1.length).b=w.heap.size:=λH1 hW1 hby h62=>by
      by_cases hq0:0<List.length q
      ·have:=aCY (P:=P) (ty':=ty') hW1 hu hi hzi him hzs (base:=none) (sCap:=0) (olds:=[]) (lo:=[]) (q:=q) (by simpa using run_firstCells_none (P:=P) w.drew i.size 0 0 0) AJ (λ_ _ _ _ _ _ _ i d hd=>by simp at hd) hs nb (by simpa using hq0) (by simpa using h62) (by rw [hib];simpa using hby)
       exact OE
      ·have hqn:q=[]:=Lw.1 A0
       subst hqn
       have hn0:news=[]:=Lw.1 (by simpa using hnl)
       subst hn0;obtain ⟨β',b1,b2,b3⟩:=hW1.KJ (ℓ:=⟨w.heap.size,0,none⟩) (nb:=⟨[],e,.vec ty [],false⟩) rfl ⟨trivial,trivial⟩ (λhl=>absurd rfl hl) (λβ' g1 g2=>yE)
       refine ⟨w,.slice none 0 0,?_,Below.refl _ _,β',b1,b3,by simp [R,b2],VZ⟩
       have hl:=hs.len
       have hc:=hs.cells
       simp only [Bh] at hl hc
       simp [Builtin.append_,CT hu,CT hkx,sizeOf,typeInfo,hi,hl,him,hc]
     split at h
     ·simp only [T.all] at h
      obtain ⟨⟨h1,h2⟩,h3⟩:=h;simp only [Aq] at h3;obtain ⟨rfl,rfl⟩:=h3;simp only [R] at hx;subst hx;obtain ⟨w',v,r1,r2,β',r3,r4,r5,r6⟩:=nil H hW h1 h2;exact ⟨w',v,r1,⟨r2.os,r2.tape,r2.output,r2.size,λk hk _=>r2.block k hk⟩,λb hz=>Dx r2 (hW.BV b hz),β',r3,r4,r5,Lz,AJ,.inl A0⟩
     ·rename_i k es off n
      split at h
      ·rename_i c0 bt e' l hb
       split at h
       ·rename_i hee _
        have hee':=hee.symm
        subst hee';split at h
        ·rename_i hes
         obtain ⟨rfl,rfl⟩:=hes;simp only [T.all] at h;obtain ⟨⟨hlen,hby,h62⟩,h3⟩:=h;simp only [Aq,KI] at h3;obtain ⟨rfl,rfl⟩:=h3
         have hkl:k<H.length:=(Du.1 hb).1
         have hW1:=hW.kill k bt
         have hblk:=(hW.blk k _ hb).1
         simp only [R] at hx;split at hx
         ·rename_i hcap
          obtain ⟨rfl,rfl,rfl⟩:=hx;simp only [BU,hcap] at hblk;subst hblk;obtain ⟨w',v,r1,r2,β',r3,r4,r5,r6⟩:=nil _ hW1 (by simpa using hby) (by simpa using h62)
          simp only [Br] at r3 r5 r6;exact ⟨w',v,r1,⟨r2.os,r2.tape,r2.output,r2.size,λk hk _=>r2.block k hk⟩,λb hz=>Dx r2 (hW.BV b hz),β',r3,by simpa using r4,by simpa using r5,Lz,AJ,.inl A0⟩
         ·rename_i c hcap
          obtain ⟨hoc,ad,hvx,had⟩:=hx;subst hvx;simp only [BU,hcap] at hblk;obtain ⟨cs,g1,g2,g3,g4⟩:=hblk
          have hlive:live β k ⟨c0,bt,.vec ty l,false⟩:=by simp [live,hcap]
          have hB0:=hW.low k _ hb hlive
          have hBZ:=hW.Cg k _ hb hlive rfl
          have hBo:∀j bj,(H.set k ⟨[],bt,.dead,false⟩)[j]? =some bj->live β j bj->(β j).b≠(β k).b:=λj bj hj lj e=>by
           rw [HI] at hj;split at hj
           ·first
            | (split at hj
               ·simp only [Ad] at hj;subst hj;exact lj
               ·cases hj)
            |(simp only [Ad] at hj;subst hj;exact lj)
           ·rename_i hne
            exact hne (hW.inj k j _ bj hb hj hlive lj rfl e.symm)
          have olde:∀(j:Nat) (d:ty.D),(l.drop off)[j]? =some d->RD Z w ty d (β k).b ((β k).o+off*ty.n+j*ty.n):=λj d hd=>by
           rw [Ew] at hd
           have:=g4 (off+j) d hd
           rwa [Ft,<-HL] at this
          have hln:List.length (l.drop off)=n:=Cn
          have hmul:off*ty.n+(c-off)*ty.n=c*ty.n:=by rw [<-Ft];congr 1;omega
          by_cases hroom:n+List.length q<=c-off
          ·--in place
           have hr:=aeu (P:=P) (ty':=ty') hW1 hu ⟨_,hkx⟩ hi him (B:=(β k).b) (O:=(β k).o+off*ty.n) (c:=c-off) (ad:=ad) (lo:=l.drop off) (q:=q) g1 A0 had hB0 hBZ hBo olde hs nb (by rw [hln];exact hroom)
           rw [hln] at hr;obtain ⟨w',v,r1,⟨r2,r3,r4,r5⟩,r6,β',r7,r8,r9,r10⟩:=hr;simp only [Br] at r7 r9 r10;exact ⟨w',v,r1,⟨r2,r3,r4,A0,λj _ hj=>r6 j (λe=>hj (e▸T3 hb hlive rfl))⟩,λb' hz=>r6 b' (λe=>hBZ (e▸hz)),β',r7,r8,r9,Lz,AJ,.inr (by rw [r10];exact T3 hb hlive rfl)⟩
          ·--a new row
           obtain ⟨olds,o1,o2,o3⟩:=aDE olde
           have hold:(Builtin.firstCells i.size n (.slice (some ad) n (c-off))).run P w.drew=.ok olds.toArray w.drew:=by
            by_cases hc0:0<c-off
            ·rw [had hc0,him]
             refine run_firstCells_some (P:=P) w.drew ty.n n _ n (c-off) olds (by rw [o1,hln]) (λj v hv=>?_)
             have hj:j<List.length (l.drop off)*ty.n:=by have:=(Du.1 hv).1;omega
             rw [addr_add]
             have:=o2 j hj
             rw [hv] at this;exact this
            ·have hn0:n=0:=A0
             have:olds=[]:=Lw.1 (by rw [o1,hln,hn0];simp)
             rw [this,hn0]
             simp [Builtin.firstCells,loadCells,loadCellsFrom]
           have hgr:=aCY (P:=P) (ty':=ty') hW1 hu hi hzi him hzs (base:=some ad) (sCap:=c-off) (olds:=olds) (lo:=l.drop off) (q:=q) (by rw [hln];exact hold) o1 (λZ' w' b' o' hZ hw hc=>aDa hZ hw olde o2 (λj hj=>hc j A0)) hs nb (by rw [hln];omega) (by rw [hln];exact h62) (by rw [hln,hib];exact hby)
           rw [hln] at hgr;obtain ⟨w',v,r1,r2,β',r3,r4,r5,r6⟩:=hgr;simp only [Br] at r3 r5 r6;exact ⟨w',v,r1,⟨r2.os,r2.tape,r2.output,r2.size,λk hk _=>r2.block k hk⟩,λb hz=>Dx r2 (hW.BV b hz),β',r3,r4,r5,Lz,AJ,.inl A0⟩
        ·cases h
       ·cases h
      ·cases h
     ·cases h
   ·cases h
  ·cases h
 ·cases h
def aee {t tx ty':TypeId} {x y lv:LV} {vx vy:Value} {H':List AB} (hW:RW G w0 Z0 Z β H w) (h:(XL P H t tx x y).all (λq=>q=(lv,H'))) (hx:R β Z w x vx) (hy:R β Z w y vy):
  ∃w' v,(Builtin.copy_ #[t,tx] ty' #[vx,vy]).run P w=.ok v w'/\RW G w0 Z0 Z β H' w'/\R β Z w' lv v/\okV H'.length lv/\H'.length=H.length/\(∀b,Z b->w'.heap[b]? =w.heap[b]?)/\DM (DP β H (owns x)) w w':=by
 unfold XL at h;split at h
 ·rename_i e ty m Ep e2 he hkx
  obtain ⟨hu,htn,i,hi,him,hib⟩:=mT he;subst htn;split at h
  ·rename_i k es n
   split at h
   ·rename_i c0 bt e' l hb
    split at h
    ·rename_i hee _
     have hee':=hee.symm
     subst hee';split at h
     ·rename_i hes
      subst hes;obtain ⟨q,hq,h⟩:=T.Ay h;obtain ⟨news,hs,nb⟩:=aD8 hkx hW hq hy
      have hnl:=hs.newsLen
      simp only [T.all] at h;obtain ⟨⟨hn,hql⟩,h3⟩:=h;simp only [Aq,KI] at h3;obtain ⟨rfl,rfl⟩:=h3
      have hkl:k<H.length:=(Du.1 hb).1
      obtain ⟨hblk,hbo⟩:=hW.blk k _ hb
      have hcells:=hs.cells
      have hlen:=hs.len
      have same:List.length q=0->H.set k ⟨c0,bt,.vec ty (B7 q l),false⟩=H:=λh0=>by
       have hq0:q=[]:=Lw.1 h0
       subst hq0
       have e:H=H.set k ⟨c0,bt,.vec ty l,false⟩:=by
        apply List.ext_getElem? λj=>?_
        rw [HI];split
        ·rename_i hj;subst hj;exact hb
        ·rfl
       simp only [B7,Di,Bh,CJ];exact e.symm
      have nothing:∀(a:Option Addr) (cc:Nat),vx=.slice a n cc->List.length q=0->∃w' v,(Builtin.copy_ #[t,tx] ty' #[vx,vy]).run P w=.ok v w'/\RW G w0 Z0 Z β (H.set k ⟨c0,bt,.vec ty (B7 q l),false⟩) w'/\R β Z w' (.v (.int .i64 (List.length q:Int))) v/\okV (H.set k ⟨c0,bt,.vec ty (B7 q l),false⟩).length (.v (.int .i64 (List.length q:Int)))/\(H.set k ⟨c0,bt,.vec ty (B7 q l),false⟩).length=H.length/\(∀b,Z b->w'.heap[b]? =w.heap[b]?)/\DM (DP β H (owns (.os k ty.n 0 n))) w w':=λa cc hv h0=>by
       have hnn:news=[]:=Lw.1 (by rw [hnl,h0,jM])
       rw [same h0];subst hnn;rw [h0] at hcells hlen;refine ⟨w,.int .i64 0,?_,hW,by rw [h0];simp only [R];rfl,trivial,rfl,λ_ _=>rfl,DM.refl _ _⟩
       rw [hv];cases a<;>simp [Builtin.copy_,CT hu,hlen,sizeOf,typeInfo,hi,him,hcells,storeCells,goInt]
      simp only [R] at hx;split at hx
      ·rename_i hcap
       obtain ⟨hn0,_,hv⟩:=hx;exact nothing none 0 (by rw [hv,hn0]) A0
      ·rename_i c hcap
       obtain ⟨hoc,ad,hvx,had⟩:=hx
       by_cases hq0:List.length q=0
       ·exact nothing _ _ hvx hq0
       ·have hlive:live β k ⟨c0,bt,.vec ty l,false⟩:=by unfold live;rw [hcap];simp
        simp only [BU,hcap] at hblk;obtain ⟨cur,g1,g2,g3,g4⟩:=hblk
        have hm:=Mr ty.n (show List.length q<=c by omega)
        have hst:=wR P (β k).b (β k).o bt news 0 cur w g1 (by rw [hnl];omega) hs.one
        simp only [ZU] at hst;generalize hnew:(cur.toList.take (β k).o++news++cur.toList.drop ((β k).o+news.length)).toArray=new at hst
        have hnget:∀p,new[p]? =if p<(β k).o then cur[p]? else if p<(β k).o+news.length then news[p-(β k).o]? else cur[p]? :=λp=>by
         rw [<-hnew]
         have hsz':(β k).o<=cur.size:=A0
         by_cases q1:p<(β k).o
         ·exact aLS
         ·rw [AD q1]
          simp only [ZI]
          by_cases q2:p<(β k).o+news.length
          ·exact aLO
          ·rw [AD q2,Fu Cn,Ew]
           have:(β k).o+news.length+(p-(cur.toList.take (β k).o++news).length)=p:=by
            simp
            omega
           rw [this]
           simp
        have hnsz:new.size=cur.size:=by
         rw [<-hnew]
         simp
         omega
        have hne:∀q,q≠(β k).b->(w.setRow (β k).b new).heap[q]? =w.heap[q]? :=λq hq=>aBE w _ _ _ hq
        have hZw:∀b',Z b'->(w.setRow (β k).b new).heap[b']? =w.heap[b']? :=λb' hz=>hne b' (λe=>hW.Cg k _ hb hlive rfl (e▸hz))
        have hb2:=setRow_heap w (β k).b cur new bt _ g1
        have had:=had A0
        rw [jM,ZU] at had;refine ⟨w.setRow (β k).b new,.int .i64 (List.length q:Int),?_,?_,JK,trivial,AJ,hZw,⟨rfl,rfl,rfl,VQ,λq _ hq=>hne q (λe=>hq (e▸T3 hb hlive rfl))⟩⟩
        ·rw [hvx,had]
         simp [Builtin.copy_,CT hu,hlen,sizeOf,typeInfo,hi,him,Nat.min_eq_left hql,hcells,hst,goInt]
        ·refine hW.set hb hlive rfl rfl ⟨hbo.1,trivial⟩ VQ ⟨rfl,rfl,rfl⟩ hne ?_
         simp only [BU,hcap];refine ⟨new,hb2,A0,by simp only [B7,B0,DE];omega,λi' d' hd'=>?_⟩
         unfold B7 at hd'
         by_cases hii:i'<List.length q
         ·rw [HN hii] at hd'
          refine nb Z (w.setRow (β k).b new) (β k).b (β k).o (λ_ h=>h) hZw (λp hp=>?_) i' d' hd'
          rw [cell_of_block hb2,hnget,AD A0,AE A0,ZK]
         ·rw [Fu A0,Ew,Nat.add_sub_cancel' A0] at hd'
          refine RD.move (λ_ h=>h) hZw ty d' _ _ _ _ (λp hp=>?_) (g4 i' d' hd')
          have:=Mr ty.n (show List.length q<=i' by omega)
          rw [cell_of_block hb2,cell_of_block g1,hnget,AD A0,AD A0]
     ·cases h
    ·cases h
   ·cases h
  ·cases h
 ·cases h
end Go.Sx
namespace Go.Sx
open Go.Proofs.YtgmhhjldohjpmaaGreatDoor
open Go Go.RowKit
variable {P : Program} {G : Av} {Γ : Specs} {β : Nat -> Loc} {Z : Nat -> Prop} {Z0 : Gz} {w w0 : World} {F : List LV} {H : List AB} {a : Act}
def aBB {n m:Nat}{g:LV->LV}{l:List LV}(h:AR n l) (hg:∀x,okV n x->okV m (g x)):AR m (l.map g):=by
 refine AR.CO λi x hx=>?_
 cases hl:l[i]? with
 |none=>simp [hl] at hx
 |some q=>simp [hl] at hx;subst hx;exact hg q (AR.get _ _ h hl)
def aC0 {k:Nat}{x:LV}:∀ {l:List LV}{i:Nat},l[i]? =some x->k∈owns x->k∈ownsL l
 | [],i,h,_=>AA
 |y::ys,0,h,hk=>by simp at h;subst h;simp only [ownsL,Bp];exact .inl hk
 |y::ys,i+1,h,hk=>by simp at h;simp only [ownsL,Bp];exact .inr (aC0 (l:=ys) h hk)
def Sv {S:Nat->Prop}{Z':Nat->Prop}{g:LV->LV}{n:Nat}{l:List LV}{ys:List Value}(h:RL β Z w l ys) (hk:AR n l) (hS:∀k,k∈ownsL l->S k) (hg:∀x y,x∈l->(∀k,k∈owns x->S k)->okV n x->R β Z w x y->R β Z' w (g x) y):RL β Z' w (l.map g) ys:=by
 refine RL.CO (by simp [RL.length h]) λi x hx=>?_
 cases hl:l[i]? with
 |none=>simp [hl] at hx
 |some q=>
  simp [hl] at hx;subst hx
  obtain ⟨y,h1,h2⟩:=RL.get _ _ h hl;exact ⟨y,h1,hg q y (PZ hl) (λk hkk=>hS k (aC0 hl hkk)) (AR.get _ _ hk hl) h2⟩
def GX (H:List AB) (d:Nat) (x:LV):Prop:=(EA H d x).all (λ_=>True)
def ON {α:Type}{g:α->T Unit}:∀ {l:List α},(Fz g l).all (λ_=>True)->∀x,x∈l->(g x).all (λ_=>True)
 | [],_,x,hx=>by cases hx
 | y::ys,h,x,hx=>by
  simp only [Fz] at h;rw [T.all_bind] at h;rcases B1.1 hx with rfl|hx
  ·exact T.BT (λ_ _=>trivial) h
  ·obtain ⟨_,h1,_⟩:=T.pick h
   exact ON h1 x hx
def anH (e:Ty) (d:e.D) (j:Nat):okV 0 ((Bk e d).getD j .junk):=nw (NC 0 e d) j
def Pt (H:List AB) (hH:∀(k:Nat) (b:AB),H[k]? =some b->okB H.length b):∀(d:Nat) (x:LV),okV H.length x->okV 0 (Bz H d x)
 |0,x,_=>by cases x<;>trivial
 | d+1,.own k off,_=>by
  simp only [Bz];split
  ·rename_i b hb
   split
   ·simp only [okV]
    exact λj=>Pt H hH d _ (nw (hH k b hb).1 _)
   ·trivial
  ·trivial
 | d+1,.os k es off n,_=>by
  simp only [Bz];split
  ·split
   ·trivial
   ·trivial
  ·trivial
 | d+1,.op k es i j,_=>by
  simp only [Bz];split
  ·split
   ·simp only [okV];exact λq=>anH _ _ _
   ·trivial
  ·trivial
 | d+1,.om k,_=>by
  simp only [Bz];split
  ·rename_i hb
   exact aBB (hH k _ hb).2 (λx hx=>Pt H hH d x hx)
  ·trivial
 |d+1,.v x,_=>trivial
 |d+1,.bl x,_=>trivial
 |d+1,.ki _ _,_=>trivial
 |d+1,.agg l,h=>Zl
 |d+1,.AM l,h=>Zl
 |d+1,.fn f l,h=>Zl
 |d+1,.fb f l,h=>Zl
 |d+1,.xq n f,h=>by simpa only [Bz,okV] using h
 |d+1,.xl e l,h=>trivial
 |d+1,.mp kd ks vs,h=>Zl
 |d+1,.oc ..,_=>trivial
 |d+1,.CN k,_=>trivial
 |d+1,.junk,_=>trivial
def ZP (Z:Nat->Prop) (β:Nat->Loc) (H:List AB) (S:Nat->Prop):Nat->Prop:=λb=>Z b\/∃k bk,S k/\H[k]? =some bk/\live β k bk/\b=(β k).b
def pJ (hW:RW G w0 Z0 Z β H w) {k:Nat}{b:AB}(hb:H[k]? =some b) (hc:b.Dl=true):live β k b/\(∃cs,w.heap[(β k).b]? =some (.cells cs b.t (0,0))/\RL β Z w b.c cs.toList)/\AR H.length b.c:=by
 obtain ⟨h1,h2⟩:=hW.blk k b hb;unfold BU at h1;unfold AB.Dl at hc;split at hc
 ·rename_i hk'
  simp only [hk'] at h1;exact ⟨by unfold live;rw [hk'];trivial,h1,h2.1⟩
 ·cases hc
def MH {S:Nat->Prop}(hW:RW G w0 Z0 Z β H w) (clo:∀k b,S k->H[k]? =some b->∀j,j∈b.owns->S j):∀(d:Nat) (x:LV) (y:Value),GX H d x->(∀k,k∈owns x->S k)->okV H.length x->R β Z w x y->R β (ZP Z β H S) w (Bz H d x) y
 |0,x,_,_,_,_,_=>by cases x<;>simp only [Bz,R]
 | d+1,.own k off,y,hG,hS,hk,h=>by
  simp only [Bz];split
  ·rename_i b hb
   split
   ·rename_i hcl
    obtain ⟨hl,⟨cs,hc,hrl⟩,hok⟩:=pJ hW hb hcl
    have hSk:S k:=hS k IU
    simp only [R,okV] at*;refine ⟨(β k).b,off,h,.inr ⟨k,b,hSk,hb,hl,rfl⟩,λj hj=>?_⟩
    have hl':off+j<b.c.length:=A0
    have hq:=getD_lt hl'
    obtain ⟨z,h1,h2⟩:=RL.get _ _ hrl hq;refine ⟨z,aMh,?_⟩
    have hG':(Fz (EA H d) b.c).all (λ_=>True):=aMb
    exact MH hW clo d _ z (ON hG' _ (PZ hq)) (λj hj=>clo k b hSk hb j (by unfold AB.owns;exact Bp.2 (.inl (aC0 hq hj)))) (nw hok _) h2
   ·exact Dk
  ·exact Dk
 | d +1,.os k es off n,y,hG,hS,hk,h=>by
  simp only [Bz];split
  ·rename_i c0 bt e l pp hb
   split
   ·rename_i hes
    have hle:off+n<=List.length l:=by
     exact aLz
    have hSk:S k:=hS k IU
    have hlen:List.length ((l.drop off).take n)=n:=Cn
    simp only [R] at h|-;rw [hlen];split at h
    ·obtain ⟨rfl,_,hy⟩:=h
     exact ⟨none,0,hy,A0,λh=>absurd h A0⟩
    ·rename_i c hc
     obtain ⟨h1,a,h2,h3⟩:=h;refine ⟨some a,c-off,h2,A0,λhn=>?_⟩
     have h4:=(hW.blk k _ hb).1
     simp only [BU,hc] at h4;obtain ⟨cs,g1,g2,g3,g4⟩:=h4;refine ⟨_,_,by rw [h3 A0],.inr ⟨k,_,hSk,hb,by simp [live,hc],rfl⟩,λi d hd=>?_⟩
     rw [Kq] at hd;split at hd
     ·rw [Ew] at hd
      have:=g4 (off+i) d hd
      rw [<-hes];rw [Ft,<-HL] at this;exact RD.keep (λ_ h=> .inl h) (λ_ _=>rfl) e d _ _ rfl this
     ·cases hd
   ·exact Dk
  ·exact Dk
 | d +1,.op k es i j,y,hG,hS,hk,h=>by
  simp only [Bz];split
  ·rename_i c0 bt e l pp hb
   split
   ·rename_i hes
    have hle:i<List.length l:=by
     exact aLz
    have hSk:S k:=hS k IU
    simp only [R] at h|-;obtain ⟨hcap,hy⟩:=h
    have h4:=(hW.blk k _ hb).1
    simp only [BU] at h4;split at h4
    ·exact xW
    ·rename_i c hc
     obtain ⟨cs,g1,g2,g3,g4⟩:=h4;refine ⟨_,_,hy,.inr ⟨k,_,hSk,hb,by simp [live,hc],rfl⟩,λq hq=>?_⟩
     have hjq:j+q<(Bk e (l.getD i e.dflt)).length:=yO
     have hrd:=RD.keep (Z':=ZP Z β H S) (λ_ h=> .inl h) (λ_ _=>rfl) e _ _ _ rfl (g4 i _ (getD_at hle))
     obtain ⟨z,z1,z2⟩:=Wb (β:=β) e _ _ _ hrd (j+q) _ (getD_lt hjq)
     grind
   ·exact Dk
  ·exact Dk
 | d+1,.om k,y,hG,hS,hk,h=>by
  simp only [Bz];split
  ·rename_i c0 bt kd ks vs pp hb
   have hSk:S k:=hS k IU
   obtain ⟨h4,h5⟩:=hW.blk k _ hb;simp only [BU] at h4;obtain ⟨es,clock,g1,g2,g3⟩:=h4;simp only [R] at h|-;refine ⟨_,es,clock,h,.inr ⟨k,_,hSk,hb,trivial,rfl⟩,g1,g2,?_⟩
   have hG':(Fz (EA H d) vs).all (λ_=>True):=aMb
   exact Sv (S:=S) g3 h5.2 (λj hj=>clo k _ hSk hb j (by unfold AB.owns;exact Bp.2 (.inr hj))) (λx y hm hx hk' hr=>MH hW clo d x y (ON hG' _ hm) hx hk' hr)
  ·exact Dk
 |d+1,.v x,_,_,_,_,h=>h
 |d+1,.bl x,_,_,_,_,h=>h
 |d+1,.ki _ _,_,_,_,_,h=>h
 |d+1,.agg l,y,hG,hS,hk,h=>by
  exact jm
 |d+1,.AM l,y,hG,hS,hk,h=>by
  exact jm
 |d+1,.fn f l,y,hG,hS,hk,h=>by
  exact jm
 |d+1,.fb f l,y,hG,hS,hk,h=>by
  exact jm
 |d+1,.mp kd ks vs,y,hG,hS,hk,h=>by
  have hG':(Fz (EA H d) vs).all (λ_=>True):=aNP
  clear hG
  simp only [Bz,R,okV,owns] at*;obtain ⟨r,es,clock,h1,h2,h3,h4,h5⟩:=h;exact ⟨r,es,clock,h1,.inl h2,h3,h4,Sv h5 hk hS (λx y hm hx hk' hr=>MH hW clo d x y (ON hG' _ hm) hx hk' hr)⟩
 |d+1,.xq n f,y,_,_,hk,h=>by
  exact aLg
 |d+1,.xl e l,y,_,_,hk,h=>by
  exact aLg
 |d+1,.oc ..,_,_,_,_,_=>xu
 |d+1,.CN k,_,_,_,_,_=>xu
 |d+1,.junk,_,_,_,_,_=>xu
def bT (ks:List Nat):∀(H:List AB) (s k:Nat),(FR ks s H)[k]? =(H[k]?).map λb=>if ks.contains (s+k) then ⟨b.c,b.t,b.k,true⟩ else b
 | [],_,_=>by simp [FR]
 |b::bs,s,0=>by simp [FR]
 |b::bs,s,k+1=>by
  simp only [FR,j9];rw [bT ks bs (s+1) k,show s+1+k=s+(k+1) by omega]
def Js (ks:List Nat):∀(H:List AB) (s:Nat),(FR ks s H).length=H.length
 | [],_=>rfl
 |b::bs,s=>by simp [FR,Js ks bs]
def RW.pub (hW:RW G w0 Z0 Z β H w) (ks:List Nat):RW G w0 Z0 (ZP Z β H (λk=>k∈ks)) β (FR ks 0 H) w:=by
 have old:∀k b,(FR ks 0 H)[k]? =some b->∃b0,H[k]? =some b0/\live β k b=live β k b0/\b.k=b0.k/\b.t=b0.t/\b.c=b0.c/\((k∈ks/\b.p=true)\/(k∉ks/\b.p=b0.p)):=λk b h=>by
  rw [bT] at h;cases hb:H[k]? with
  |none=>simp [hb] at h
  | some b0=>
   simp only [hb,JH,Ad,EK] at h;refine ⟨b0,rfl,?_⟩;split at h
   ·rename_i hc
    subst h;exact ⟨rfl,rfl,rfl,rfl,.inl ⟨AA,rfl⟩⟩
   ·rename_i hc
    subst h
    grind
 have hZ:∀b,Z b->ZP Z β H (λk=>k∈ks) b:=λ_ h=> .inl h
 refine ⟨hW.below,λb hz=>?_,λb hz=>?_,λk b hk hl hp hz=>?_,λk b hk hl hp=>?_,λk b hk hl=>?_,λi j bi bj hi hj li lj pi e=>?_,λk b hk=>?_,hW.CV.mono hZ (λ_ _=>rfl),λp hp=>⟨R.mono (n:=H.length) (λ_ _=>rfl) hZ (λ_ _=>rfl) _ _ (hW.gh p hp).2 (hW.gh p hp).1,by rw [Js];exact (hW.gh p hp).2⟩,λD hD=>⟨.inl (hW.Ci D hD).1,(hW.Ci D hD).2⟩⟩
 ·exact aLE
 ·rcases hz with hz|⟨k,bk,_,h2,h3,rfl⟩
  ·exact hW.ES b hz
  ·exact .inr (hW.low k bk h2 h3)
 ·obtain ⟨b0,h1,h2,h3,h4,h5,h6⟩:=old k b hk
  rcases h6 with ⟨_,h6⟩ |⟨h6,h7⟩
  ·grind
  ·rcases hz with hz|⟨j,bj,g1,g2,g3,g4⟩
   ·exact hW.Cg k b0 h1 (h2▸hl) (h7▸hp) hz
   ·exact h6 ((hW.inj k j b0 bj h1 g2 (h2▸hl) g3 (h7▸hp) g4)▸g1)
 ·obtain ⟨b0,h1,h2,h3,h4,h5,h6⟩:=old k b hk
  rcases h6 with ⟨h6,_⟩ |⟨h6,h7⟩
  ·exact .inr ⟨k,b0,h6,h1,h2▸hl,rfl⟩
  ·exact .inl (hW.G0 k b0 h1 (h2▸hl) (h7▸hp))
 ·obtain ⟨b0,h1,h2,_⟩:=old k b hk
  exact hW.low k b0 h1 (h2▸hl)
 ·obtain ⟨b0,h1,h2,h3,h4,h5,h6⟩:=old i bi hi
  obtain ⟨c0,g1,g2,_⟩:=old j bj hj;rcases h6 with ⟨_,h6⟩ |⟨h6,h7⟩
  ·grind
  ·exact hW.inj i j b0 c0 h1 g1 (h2▸li) (g2▸lj) (h7▸pi) e
 ·obtain ⟨b0,h1,h2,h3,h4,h5,h6⟩:=old k b hk
  obtain ⟨q1,q2⟩:=hW.blk k b0 h1
  have q3:=q1.keep (β':=β) (Z':=ZP Z β H (λk=>k∈ks)) (w':=w) (n:=H.length) (λ_ _=>rfl) hZ (λ_ _=>rfl) rfl (λ_=>rfl) q2
  rw [Js];refine ⟨?_,?_⟩
  ·unfold BU at q3|-
   rwa [h3,h4,h5]
  ·unfold okB at q2|-
   rwa [h3,h5]
def Sb {ks:List Nat}{l:List LV}(h:K0 H ks l=true):(∀k,k∈ownsL l->k∈ks)/\(∀k b,k∈ks->H[k]? =some b->∀j,j∈b.owns->j∈ks):=by
 unfold K0 at h;refine ⟨λk hk=>AA,λk b hk hb j hj=>?_⟩
 grind
end Go.Sx
namespace Go.Sx
open Go.Proofs.YtgmhhjldohjpmaaGreatDoor
open Go Go.RowKit
variable {P : Program} {G : Av} {Γ : Specs} {β : Nat -> Loc} {Z : Nat -> Prop} {Z0 : Gz} {w w0 : World} {F : List LV} {H : List AB} {a : Act}
def RO (β:Nat->Loc) (Z:Nat->Prop) (w:World):Option LV->Option Value->Prop
 |none,none=>True
 |some x,some y=>R β Z w x y
 |_,_=>False
def aBQ {lo hi:Option Value}{len cap i j:Nat}(hij:i<=j) (hlc:j<=cap) (hlo:match lo with|none=>i=0|some v=>∃k,v=.int k i) (hhi:match hi with|none=>j=len|some v=>∃k,v=.int k j) (w':World):
  (Instr.sliceBounds true len cap lo hi none).run P w'=.ok (i,j,cap) w':=by
 have bd:∀(k:IntKind) (x y:Nat) (c:BoundsCode),x<=y->(Instr.sliceBound (.int k x) y c).run P w'=.ok x w':=λk x y c hxy=>by
  exact aLj
 cases lo with
 |none=>
  subst hlo;cases hi with
  |none=>simp only at hhi;subst hhi;simp [Instr.sliceBounds]
  |some v=>simp only at hhi;obtain ⟨k,rfl⟩:=hhi;simp [Instr.sliceBounds,bd k j cap _ hlc]
 |some u=>
  obtain ⟨k',rfl⟩:=hlo;cases hi with
  |none=>simp only at hhi;subst hhi;simp [Instr.sliceBounds,bd k' i j _ hij]
  |some v=>simp only at hhi;obtain ⟨k,rfl⟩:=hhi;simp [Instr.sliceBounds,bd k j cap _ hlc,bd k' i j _ hij]
def ado {t:TypeId} {x lv:LV} {y:Value} {lo hi:Option LV} {vlo vhi:Option Value} {N:Nat} (h:(qo P t x lo hi).all (λz=>z=lv)) (hr:R β Z w x y) (hlo:RO β Z w lo vlo) (hhi:RO β Z w hi vhi) (hk:okV N x):
  ∃v,(∀w',(Instr.sliceAt t y vlo vhi none).run P w'=.ok v w')/\R β Z w lv v/\okV N lv:=by
 unfold qo at h;split at h
 ·rename_i e hu
  split at h
  ·rename_i m hsz
   have e2:=λw=>run_sizeOf hsz w
   have bnd:∀(o:Option LV) (v:Option Value) (d n:Int),RO β Z w o v->(match o with|none=>some d|some y=>match pl y with|some (.int _ n)=>some n|_=>none)=some n->(match v with|none=>n=d|some v=>∃k,v=.int k n):=λo v d n ho hn=>by
    cases o with
    |none=>
     cases v with
     |none=>simp only at hn|-;exact (Dw hn).symm
     |some v=>cases ho
    | some x=>
     cases v with
     |none=>cases ho
     | some v=>
      simp only [RO] at ho;simp only at hn|-;split at hn
      ·rename_i k n' hp
       simp only [Ad] at hn;subst hn;exact ⟨k,Cb hp ho⟩
      ·cases hn
   have nn:∀(v:Option Value) (d n:Int),0<=n->0<=d->(match v with|none=>n=d|some v=>∃k,v=.int k n)->(match v with|none=>n.toNat=d.toNat|some v=>∃k,v=.int k (n.toNat:Int)):=λv d n hn hd hv=>by
    cases v with
    |none=>simp only at hv|-;rw [hv]
    |some v=>simp only at hv|-;rw [BQ hn];exact hv
   simp only at h;split at h
   ·rename_i ty l
    split at h
    ·rename_i i j hi1 hi2
     split at h
     ·rename_i htn
      simp only [T.all] at h;obtain ⟨⟨h0,h1,h2⟩,h3⟩:=h;subst h3;simp only [R] at hr;obtain ⟨ad,cap,g1,g2,g3⟩:=hr
      have b1:=nn vlo 0 i h0 A0 (bnd lo vlo 0 i hlo hi1)
      have b2:=nn vhi _ j A0 A0 (bnd hi vhi _ j hhi hi2)
      simp only [Bs,Int.toNat_zero] at b1 b2;refine ⟨_,λw'=>by simp [Instr.sliceAt,Instr.slice,CT hu,g1,aBQ (P:=P) (len:=List.length l) (cap:=cap) (i:=i.toNat) (j:=j.toNat) A0 A0 b1 b2 w',e2];rfl,?_,trivial⟩
      have hlen:List.length ((l.drop i.toNat).take (j.toNat-i.toNat))=j.toNat-i.toNat:=Cn
      simp only [R];rw [hlen];refine ⟨_,_,rfl,A0,λhn=>?_⟩
      obtain ⟨b,off,g4,g5,g6⟩:=g3 A0;rw [AD A0,g4];simp only [JH,addr_add];refine ⟨b,_,rfl,g5,λp d hd=>?_⟩
      rw [Kq] at hd;split at hd
      ·rw [Ew] at hd
       have:=g6 (i.toNat+p) d hd
       rw [Ft,<-HL,htn] at this;rw [htn];exact this
      ·cases hd
     ·cases h
    ·cases h
   ·rename_i k es off n
    split at h
    ·rename_i i j hi1 hi2
     split at h
     ·rename_i hes
      simp only [T.all] at h;obtain ⟨⟨h0,h1,h2⟩,h3⟩:=h;subst h3
      have b1:=nn vlo 0 i h0 A0 (bnd lo vlo 0 i hlo hi1)
      have b2:=nn vhi _ j A0 A0 (bnd hi vhi _ j hhi hi2)
      simp only [R] at hr;split at hr
      ·rename_i hcap
       obtain ⟨rfl,rfl,rfl⟩:=hr
       have hi0:i.toNat=0:=A0
       have hj0:j.toNat=0:=A0
       refine ⟨.slice none 0 0,λw'=>by simp [Instr.sliceAt,Instr.slice,CT hu,aBQ (P:=P) (len:=0) (cap:=0) (i:=i.toNat) (j:=j.toNat) A0 A0 b1 b2 w',e2,hi0,hj0],by simp [R,hcap,hi0,hj0],hk⟩
      ·rename_i c hcap
       obtain ⟨g1,ad,g2,g3⟩:=hr;subst g2;refine ⟨_,λw'=>by simp [Instr.sliceAt,Instr.slice,CT hu,aBQ (P:=P) (len:=n) (cap:=c-off) (i:=i.toNat) (j:=j.toNat) A0 A0 b1 b2 w',e2];rfl,?_,hk⟩
       simp only [R,hcap];refine ⟨A0,if c-off=i.toNat then ad else ad.add (i.toNat*(m+1)),?_,λhn=>?_⟩
       ·rw [show c-(off+i.toNat)=c-off-i.toNat by omega]
        split<;>rfl
       ·rw [AD A0,g3 A0,addr_add,hes,Ft,HL]
     ·cases h
    ·cases h
   ·cases h
  ·cases h
 ·cases h
def aeo {lo:Option Value}{kh km:IntKind}{len cap i j:Nat}(hij:i<=j) (hlc:j<=cap) (hlo:match lo with|none=>i=0|some v=>∃k,v=.int k i) (w':World):
  (Instr.sliceBounds true len cap lo (some (.int kh j)) (some (.int km j))).run P w'=.ok (i,j,j) w':=by
 have bd:∀(k:IntKind) (x y:Nat) (c:BoundsCode),x<=y->(Instr.sliceBound (.int k x) y c).run P w'=.ok x w':=λk x y c hxy=>by
  exact aLj
 cases lo with
 |none=>simp only at hlo;subst hlo;simp [Instr.sliceBounds,bd km j cap _ hlc,bd kh j j _ (At j)]
 |some u=>
  obtain ⟨k',rfl⟩:=hlo
  simp [Instr.sliceBounds,bd km j cap _ hlc,bd kh j j _ (At j),bd k' i j _ hij]
def adV {t:TypeId} {x lv hi mx:LV} {y vhi vmx:Value} {lo:Option LV} {vlo:Option Value} {N:Nat} (h:(pV P t x lo hi mx).all (λz=>z=lv)) (hr:R β Z w x y) (hlo:RO β Z w lo vlo) (hhi:R β Z w hi vhi) (hmx:R β Z w mx vmx):
  ∃v,(∀w',(Instr.sliceAt t y vlo (some vhi) (some vmx)).run P w'=.ok v w')/\R β Z w lv v/\okV N lv:=by
 unfold pV at h;split at h
 ·rename_i e hu
  split at h
  ·rename_i m hsz
   have e2:=λw=>run_sizeOf hsz w
   split at h
   ·rename_i ty l
    split at h
    ·rename_i i kj j kq q hi1 hi2 hi3
     have v2:=Cb hi2 hhi
     have v3:=Cb hi3 hmx
     subst v2;subst v3;split at h
     ·rename_i htn
      obtain ⟨⟨h0,h1,h2,rfl⟩,h3⟩:=h;subst h3;obtain ⟨ad,cap,g1,g2,g3⟩:=hr
      have b1:(match (generalizing:=false) vlo with|none=>i.toNat=0|some v=>∃k,v=.int k (i.toNat:Int)):=by
       cases lo with
       |none=>
        cases vlo with
        |none=>simp only [Ad] at hi1;subst hi1;rfl
        |some v=>cases hlo
       | some u=>
        cases vlo with
        |none=>cases hlo
        | some v=>
         simp only at hi1|-;split at hi1
         ·rename_i k n' hp
          simp only [Ad] at hi1;subst hi1;exact ⟨k,by rw [BQ h0];exact Cb hp hlo⟩
         ·cases hi1
      have hj:q=((q.toNat:Nat):Int):=(BQ A0).symm
      have hb:=λw'=>aeo (P:=P) (lo:=vlo) (kh:=kj) (km:=kq) (len:=List.length l) (cap:=cap) (i:=i.toNat) (j:=q.toNat) A0 A0 b1 w'
      rw [<-hj] at hb;refine ⟨_,λw'=>by simp [Instr.sliceAt,Instr.slice,CT hu,g1,hb w',e2];rfl,?_,trivial⟩
      have hlen:List.length ((l.drop i.toNat).take (q.toNat-i.toNat))=q.toNat-i.toNat:=Cn
      simp only [R];rw [hlen];refine ⟨_,_,rfl,A0,λhn=>?_⟩
      obtain ⟨b,off,g4,g5,g6⟩:=g3 A0;rw [AD A0,g4];simp only [JH,addr_add];refine ⟨b,_,rfl,g5,λp d hd=>?_⟩
      rw [Kq] at hd;split at hd
      ·rw [Ew] at hd
       have:=g6 (i.toNat+p) d hd
       grind
      ·cases hd
     ·cases h
    ·cases h
   ·cases h
  ·cases h
 ·cases h
def aCS {kd:IntKind}{n:Int}{z:Value}{lv:LV}:∀(ks:List Int) (vs:List LV) (es:List MapEntry) (s:Nat),(bW kd n z ks vs).all (λr=>r=lv)->ks.length=vs.length->es.map (·.key)=ks.map (.int kd)->RL β Z w vs (es.map (·.val))->
  (∃s' v,Instr.findNow (.int kd) (.int kd n) es s=some (some (s',v))/\R β Z w lv v/\∃i:Nat,vs[i]? =some lv)\/(Instr.findNow (.int kd) (.int kd n) es s=some none/\lv=.v z)
 | [],[],es,s,h,_,hk,hr=>by
  exact aL8
 | [],_::_,_,_,_,hl,_,_=>AA
 |_::_,[],_,_,_,hl,_,_=>AA
 | k::ks,v::vs,es,s,h,hl,hk,hr=>by
  cases es with
  |nil=>simp at hk
  | cons e es=>
   simp only [E8,HK] at hk;obtain ⟨y,zs,h1,h2,h3⟩:=hr;obtain ⟨rfl,rfl⟩:=h1;cases hb:(n==k) with
   |true=>
    have:=h.1 hb
    subst this;exact .inl ⟨s,e.val,VG,h2,0,rfl⟩
   |false=>
    have hf:Instr.findNow (.int kd) (.int kd n) (e::es) s=Instr.findNow (.int kd) (.int kd n) es (s+1):=VG
    rw [hf];rcases aCS ks vs es (s+1) (h.2 hb) AA hk.2 h3 with ⟨s',v',q1,q2,i,q3⟩ |q
    ·exact .inl ⟨s',v',q1,q2,i+1,AA⟩
    ·exact .inr q
def mA {kt:TypeId}{kd:IntKind}(hu:P.underlying kt=some (.int kd)) (e:Bool) (v:Value) (w':World):(Instr.checkKey e 10000 kt v).run P w'=.ok () w':=by
 unfold Instr.checkKey
 simp [CT hu]
def ae4 {t:TypeId}{x q lv:LV}{y z:Value}(hW:RW G w0 Z0 Z β H w) (h:(Tf P H t x q).all (λr=>r=lv)) (hr:R β Z w x y) (hq:R β Z w q z) (hk:okV H.length x):
  ∃v,(∀w',(∀b,(Z b\/∃k,x=.om k/\b=(β k).b)->w'.heap[b]? =w.heap[b]?)->(Instr.lookup t y z false).run P w'=.ok v w')/\R β Z w lv v/\okV H.length lv:=by
 unfold Tf at h;split at h
 ·rename_i kt et hu
  split at h
  ·rename_i kd z0 kd' n hku hz hp
   split at h
   ·rename_i hkd
    obtain ⟨rfl,hz1⟩:=hkd
    have hzq:=Cb hp hq
    have main:∀(r:Nat) (es:Array MapEntry) (clock:Nat) (ks:List Int) (vs:List LV),y=.map (some r)->w.heap[r]? =some (.map es clock)->es.toList.map (·.key)=ks.map (.int kd')->RL β Z w vs (es.toList.map (·.val))->ks.length=vs.length->AR H.length vs->(bW kd' n z0 ks vs).all (λr=>r=lv)->(Z r\/∃k,x=.om k/\r=(β k).b)->
      ∃v,(∀w',(∀b,(Z b\/∃k,x=.om k/\b=(β k).b)->w'.heap[b]? =w.heap[b]?)->(Instr.lookup t y z false).run P w'=.ok v w')/\R β Z w lv v/\okV H.length lv:=λr es clock ks vs hy hh hkk hvv hl hok hch hzr=>by
     rcases aCS ks vs es.toList 0 hch hl hkk hvv with ⟨s',v',q1,q2,i,q3⟩ |⟨q1,q2⟩
     ·refine ⟨v',λw' hw'=>?_,q2,AR.get i _ hok q3⟩
      exact aK7
     ·refine ⟨z0,λw' hw'=>?_,by rw [q2];simp [R],by rw [q2];trivial⟩
      exact aKD
    split at h
    ·exact aLR
    ·rename_i k
     split at h
     ·rename_i hb
      split at h
      ·rename_i hkk
       obtain ⟨rfl,hl⟩:=hkk;obtain ⟨b1,b2⟩:=hW.blk k _ hb;obtain ⟨es,clock,g1,g2,g3⟩:=b1;exact aLJ
      ·cases h
     ·cases h
    ·cases h
   ·cases h
  ·cases h
 ·cases h
def adx {kd:IntKind}{n:Int}{z:Value}{lv:LV}:∀(ks:List Int) (vs:List LV) (es:List MapEntry) (s:Nat),(bB kd n z ks vs).all (λr=>r=lv)->ks.length=vs.length->es.map (·.key)=ks.map (.int kd)->RL β Z w vs (es.map (·.val))->
  (∃s' v u,Instr.findNow (.int kd) (.int kd n) es s=some (some (s',v))/\R β Z w u v/\lv=.AM [norm u,.bl true]/\∃i:Nat,vs[i]? =some u)\/(Instr.findNow (.int kd) (.int kd n) es s=some none/\lv=.AM [.v z,.bl false])
 | [],[],es,s,h,_,hk,hr=>by
  exact aL8
 | [],_::_,_,_,_,hl,_,_=>AA
 |_::_,[],_,_,_,hl,_,_=>AA
 | k::ks,v::vs,es,s,h,hl,hk,hr=>by
  cases es with
  |nil=>simp at hk
  | cons e es=>
   simp only [E8,HK] at hk;obtain ⟨y,zs,h1,h2,h3⟩:=hr;obtain ⟨rfl,rfl⟩:=h1;cases hb:(n==k) with
   |true=>
    have:=h.1 hb
    subst this;exact .inl ⟨s,e.val,v,VG,h2,rfl,0,rfl⟩
   |false=>
    have hf:Instr.findNow (.int kd) (.int kd n) (e::es) s=Instr.findNow (.int kd) (.int kd n) es (s+1):=VG
    rw [hf];rcases adx ks vs es (s+1) (h.2 hb) AA hk.2 h3 with ⟨s',v',u',q1,q2,q4,i,q3⟩ |q
    ·exact .inl ⟨s',v',u',q1,q2,q4,i+1,AA⟩
    ·exact .inr q
def adl {t:TypeId}{x q lv:LV}{y z:Value}(hW:RW G w0 Z0 Z β H w) (h:(XA P H t x q).all (λr=>r=lv)) (hr:R β Z w x y) (hq:R β Z w q z) (hk:okV H.length x):
  ∃v,(∀w',(∀b,(Z b\/∃k,x=.om k/\b=(β k).b)->w'.heap[b]? =w.heap[b]?)->(Instr.lookup t y z true).run P w'=.ok v w')/\R β Z w lv v/\okV H.length lv:=by
 unfold XA at h;split at h
 ·rename_i kt et hu
  split at h
  ·rename_i kd z0 kd' n hku hz hp
   split at h
   ·rename_i hkd
    obtain ⟨rfl,hz1⟩:=hkd
    have hzq:=Cb hp hq
    have main:∀(r:Nat) (es:Array MapEntry) (clock:Nat) (ks:List Int) (vs:List LV),y=.map (some r)->w.heap[r]? =some (.map es clock)->es.toList.map (·.key)=ks.map (.int kd')->RL β Z w vs (es.toList.map (·.val))->ks.length=vs.length->AR H.length vs->(bB kd' n z0 ks vs).all (λr=>r=lv)->(Z r\/∃k,x=.om k/\r=(β k).b)->
      ∃v,(∀w',(∀b,(Z b\/∃k,x=.om k/\b=(β k).b)->w'.heap[b]? =w.heap[b]?)->(Instr.lookup t y z true).run P w'=.ok v w')/\R β Z w lv v/\okV H.length lv:=λr es clock ks vs hy hh hkk hvv hl hok hch hzr=>by
     rcases adx ks vs es.toList 0 hch hl hkk hvv with ⟨s',v',u,q1,q2,q4,i,q3⟩ |⟨q1,q2⟩
     ·refine ⟨.tuple #[v',.bool true],λw' hw'=>?_,by rw [q4];exact ⟨_,rfl,v',[.bool true],rfl,OY q2,_,[],rfl,rfl,rfl⟩,by rw [q4];exact ⟨Sr (AR.get i _ hok q3),trivial,trivial⟩⟩
      exact aK7
     ·refine ⟨.tuple #[z0,.bool false],λw' hw'=>?_,by rw [q2];exact ⟨_,rfl,z0,[.bool false],rfl,rfl,_,[],rfl,rfl,rfl⟩,by rw [q2];exact ⟨trivial,trivial,trivial⟩⟩
      exact aKD
    split at h
    ·exact aLR
    ·rename_i k
     split at h
     ·rename_i hb
      split at h
      ·rename_i hkk
       obtain ⟨rfl,hl⟩:=hkk;obtain ⟨b1,b2⟩:=hW.blk k _ hb;simp only [BU] at b1;obtain ⟨es,clock,g1,g2,g3⟩:=b1;simp only [R] at hr;exact aLJ
      ·cases h
     ·cases h
    ·cases h
   ·cases h
  ·cases h
 ·cases h
def aDM {kd:IntKind}{n:Int}:∀(ks:List Int) (es:List MapEntry) (s:Nat),ks.contains n=false->es.map (·.key)=ks.map (.int kd)->Instr.findNow (.int kd) (.int kd n) es s=some none
 | [],es,s,_,hk=>by
  have:es=[]:=HR
  subst this;rfl
 | k::ks,es,s,hc,hk=>by
  cases es with
  |nil=>simp at hk
  |cons e es=>
   simp only [E8,HK] at hk;simp only [List.contains_cons,Eu] at hc
   have hf:Instr.findNow (.int kd) (.int kd n) (e::es) s=Instr.findNow (.int kd) (.int kd n) es (s+1):=by simp [Instr.findNow,Instr.sameNow,hk.1,hc.1]
   rw [hf];exact aDM ks es (s+1) hc.2 hk.2
def aCW {t:TypeId}{x q r:LV}{y z u:Value}{H':List AB}(hW:RW G w0 Z0 Z β H w) (h:(Uw P H t x q r).all (λr=>r=H')) (hr:R β Z w x y) (hq:R β Z w q z) (hu:R β Z w r u) (hrk:okV H.length r):
  ∃w',(Instr.mapUpdate t y z u).run P w=.ok () w'/\RW G w0 Z0 Z β H' w'/\H'.length=H.length/\(∀b,Z b->w'.heap[b]? =w.heap[b]?)/\DM (DP β H (owns x)) w w':=by
 unfold Uw at h;split at h
 ·rename_i kt et hut
  split at h
  ·rename_i kd kd' n k hku hp
   split at h
   ·rename_i c0 bt kd2 ks vs hb
    split at h
    ·rename_i hle
     obtain ⟨rfl,rfl,hl,hnc⟩:=hle;subst h;obtain ⟨b1,b2⟩:=hW.blk k _ hb;obtain ⟨es,clock,g1,g2,g3⟩:=b1;simp only [R] at hr
     have hzq:=Cb hp hq
     have hlt:=(HO.1 g1).1
     have hget:(getObj (β k).b).run P w=.ok (.map es clock) w:=aNB
     let w':World:={w with heap:=w.heap.setIfInBounds (β k).b (.map (es.push {key:=z,val:=u,born:=clock}) (clock+1))}
     have hset:(setObj (β k).b (.map (es.push {key:=z,val:=u,born:=clock}) (clock+1))).run P w=.ok () w':=aNQ
     have hfn:=aDM ks es.toList 0 hnc g2
     have hlive:=trivial
     have hne:∀j,j≠(β k).b->w'.heap[j]? =w.heap[j]? :=λj hj=>AA
     have hZw:∀b',Z b'->w'.heap[b']? =w.heap[b']? :=λb' hz=>hne b' (λe=>hW.Cg k _ hb hlive rfl (e▸hz))
     refine ⟨w',?_,?_,AJ,hZw,⟨rfl,rfl,rfl,kc,λj _ hj=>hne j (λe=>hj (e▸T3 hb hlive rfl))⟩⟩
     ·rw [hzq] at hset
      simp [Instr.mapUpdate,CT hut,hr,hget,mA hku,Instr.findKey,CT hku,hzq,hfn,hset]
     ·refine hW.set hb hlive rfl rfl ⟨trivial,AR.append b2.2 ⟨hrk,trivial⟩⟩ kc ⟨rfl,rfl,rfl⟩ hne ?_
      refine ⟨es.push {key:=z,val:=u,born:=clock},clock+1,by simp [w',hlt],by simp [g2,hzq],?_⟩
      have h1:RL β Z w (vs++[r]) (es.toList.map (·.val)++[u]):=g3.app (by simp only [RL];exact ⟨u,[],rfl,hu,rfl⟩)
      have hok1:AR H.length [r]:=⟨hrk,trivial⟩
      have h2:=RL.mono (n:=H.length) (β':=β) (Z':=Z) (λ_ _=>rfl) (λ_ h=>h) hZw _ _ (AR.append b2.2 hok1) h1
      grind
    ·cases h
   ·cases h
  ·cases h
 ·cases h
def aPz:∀ {e:Ty}{v:Value}{d:e.D},Nt e v=some d->v=aAg e d
 | .int k,v,d,h=>by
  simp only [Nt] at h;split at h
  ·split at h
   ·rename_i hk;simp only [Ad] at h;subst h hk;rfl
   ·cases h
  ·cases h
 | .str,v,d,h=>by
  simp only [Nt] at h;split at h
  ·simp only [Ad] at h;subst h;rfl
  ·cases h
 | .bool,_,_,h=>yJ
 | .sl _,_,_,h=>yJ
 | .pair _ _,_,_,h=>yJ
def lH:Ty->TypeDesc
 | .int k=> .int k
 |_=> .string
def aDv {k:IntKind}{d:Int}:∀(l:List Int) (es:List MapEntry) (s:Nat),es.map (·.key)=l.map (.int k)->(∀x,x∈es->x.val=.bool true)->
  (l.contains d=true/\∃s',Instr.findNow (.int k) (.int k d) es s=some (some (s',.bool true)))\/(l.contains d=false/\Instr.findNow (.int k) (.int k d) es s=some none)
 | [],es,s,hk,_=>by
  exact aLy
 | x::l,es,s,hk,hv=>by
  cases es with
  |nil=>simp at hk
  | cons e es=>
   simp only [E8,HK] at hk;cases hb:(d==x) with
   |true=>
    refine .inl ⟨AA,s,?_⟩
    have hv1:=hv e AJ
    simp [Instr.findNow,Instr.sameNow,hk.1,hb,hv1]
   |false=>
    have hf:Instr.findNow (.int k) (.int k d) (e::es) s=Instr.findNow (.int k) (.int k d) es (s+1):=VG
    rw [hf]
    have hc:(x::l).contains d=l.contains d:=AA
    rw [hc];exact aDv l es (s+1) hk.2 (λy hy=>hv y AA)
def aDu {d:ByteArray}:∀(l:List ByteArray) (es:List MapEntry) (s:Nat),es.map (·.key)=l.map .string->(∀x,x∈es->x.val=.bool true)->
  (l.contains d=true/\∃s',Instr.findNow .string (.string d) es s=some (some (s',.bool true)))\/(l.contains d=false/\Instr.findNow .string (.string d) es s=some none)
 | [],es,s,hk,_=>by
  exact aLy
 | x::l,es,s,hk,hv=>by
  cases es with
  |nil=>simp at hk
  | cons e es=>
   simp only [E8,HK] at hk;cases hb:(d==x) with
   |true=>
    refine .inl ⟨AA,s,?_⟩
    have hv1:=hv e AJ
    simp [Instr.findNow,Instr.sameNow,hk.1,hb,hv1]
   |false=>
    have hf:Instr.findNow .string (.string d) (e::es) s=Instr.findNow .string (.string d) es (s+1):=VG
    rw [hf]
    have hc:(x::l).contains d=l.contains d:=AA
    rw [hc];exact aDu l es (s+1) hk.2 (λy hy=>hv y AA)
def aGW {e:Ty}{v:Value}{d:e.D}(hd:Nt e v=some d) (l:List e.D) (es:List MapEntry) (s:Nat) (hk:es.map (·.key)=List.map (aAg e) l) (hv:∀x,x∈es->x.val=.bool true):
  (lK e d l=true/\∃s',Instr.findNow (lH e) v es s=some (some (s',.bool true)))\/(lK e d l=false/\Instr.findNow (lH e) v es s=some none):=by
 have hvv:=aPz hd
 subst hvv;cases e with
 |int k=>exact aDv l es s hk hv
 |str=>exact aDu l es s hk hv
 |bool=>simp [Nt] at hd
 |sl _=>simp [Nt] at hd
 |pair _ _=>simp [Nt] at hd
def aDB {t:TypeId}{e:Ty}(h:ZE P t=some e):∃kt et,P.underlying t=some (.map kt et)/\P.underlying et=some .bool/\P.underlying kt=some (lH e)/\(∀(b:Bool) (v:Value) (w':World),(Instr.checkKey b 10000 kt v).run P w'=.ok () w')/\IA P et=some (.bool false):=by
 unfold ZE at h;split at h
 ·rename_i kt et hu
  split at h
  ·rename_i k h1 h2 h3
   simp only [Ad] at h;subst h;exact ⟨kt,et,hu,h1,h2,λb v w'=>mA h2 b v w',h3⟩
  ·rename_i h1 h2 h3
   simp only [Ad] at h;subst h;exact ⟨kt,et,hu,h1,h2,λb v w'=>by unfold Instr.checkKey;simp [CT h2],h3⟩
  ·cases h
 ·cases h
def ae5 {t:TypeId}{x q lv:LV}{y z:Value}(hW:RW G w0 Z0 Z β H w) (h:(XX P H t x q).all (λr=>r=lv)) (hr:R β Z w x y) (hq:R β Z w q z) (hk:okV H.length x):
  ∃v,(∀w',(∀b,(Z b\/∃k,x=.om k/\b=(β k).b)->w'.heap[b]? =w.heap[b]?)->(Instr.lookup t y z false).run P w'=.ok v w')/\R β Z w lv v/\okV H.length lv:=by
 unfold XX at h;split at h
 ·rename_i k
  split at h
  ·rename_i c0 bt e l pp hb
   unfold abD at h;split at h
   ·rename_i e' v hs hp
    split at h
    ·rename_i he d _ hd
     obtain ⟨he⟩:=he;subst he;subst h;obtain ⟨kt,et,u1,u2,u3,u4,u5⟩:=aDB hs;obtain ⟨b1,b2⟩:=hW.blk k _ hb;obtain ⟨es,clock,g1,g2,g3⟩:=b1;simp only [R] at hr
     have hzq:=Cb hp hq
     rcases aGW hd l es.toList 0 g2 g3 with ⟨m1,s',m2⟩ |⟨m1,m2⟩
     ·refine ⟨.bool true,λw' hw'=>?_,by simp only [R,m1],trivial⟩
      have hh':w'.heap[(β k).b]? =some (.map es clock):=AA
      have hget:(getObj (β k).b).run P w'=.ok (.map es clock) w':=k7
      simp [Instr.lookup,CT u1,hr,hget,u4,Instr.findKey,CT u3,hzq,m2]
     ·refine ⟨.bool false,λw' hw'=>?_,by simp only [R,m1],trivial⟩
      have hh':w'.heap[(β k).b]? =some (.map es clock):=AA
      have hget:(getObj (β k).b).run P w'=.ok (.map es clock) w':=k7
      have hz0:=λw=>mG u5 w
      simp [Instr.lookup,CT u1,hr,hget,u4,Instr.findKey,CT u3,hzq,m2,hz0]
    ·cases h
   ·cases h
  ·exact ae4 hW h hr hq hk
 ·exact ae4 hW h hr hq hk
def aeD {t:TypeId}{x q r:LV}{y z u:Value}{H':List AB}(hW:RW G w0 Z0 Z β H w) (h:(insL P H t x q r).all (λr=>r=H')) (hr:R β Z w x y) (hq:R β Z w q z) (hu:R β Z w r u) (hrk:okV H.length r):
  ∃w',(Instr.mapUpdate t y z u).run P w=.ok () w'/\RW G w0 Z0 Z β H' w'/\H'.length=H.length/\(∀b,Z b->w'.heap[b]? =w.heap[b]?)/\DM (DP β H (owns x)) w w':=by
 unfold insL at h;split at h
 ·rename_i k
  split at h
  ·rename_i c0 bt e l hb
   split at h
   ·rename_i e' v hs hp
    split at h
    ·rename_i he d _ hd
     obtain ⟨he⟩:=he;subst he;obtain ⟨hnm,h⟩:=h;subst h;obtain ⟨kt,et,u1,u2,u3,u4,u5⟩:=aDB hs;obtain ⟨b1,b2⟩:=hW.blk k _ hb;obtain ⟨es,clock,g1,g2,g3⟩:=b1;simp only [R] at hr hu
     have hzq:=Cb hp hq
     have hlt:=(HO.1 g1).1
     have hget:(getObj (β k).b).run P w=.ok (.map es clock) w:=aNB
     let w':World:={w with heap:=w.heap.setIfInBounds (β k).b (.map (es.push {key:=z,val:=u,born:=clock}) (clock+1))}
     have hset:(setObj (β k).b (.map (es.push {key:=z,val:=u,born:=clock}) (clock+1))).run P w=.ok () w':=aNQ
     have hfn:Instr.findNow (lH e') v es.toList 0=some none:=by
      rcases aGW hd l es.toList 0 g2 g3 with ⟨m1,_⟩ |⟨_,m2⟩
      ·grind
      ·exact m2
     have hlive:=trivial
     have hne:∀j,j≠(β k).b->w'.heap[j]? =w.heap[j]? :=λj hj=>AA
     have hZw:∀b',Z b'->w'.heap[b']? =w.heap[b']? :=λb' hz=>hne b' (λe=>hW.Cg k _ hb hlive rfl (e▸hz))
     refine ⟨w',?_,?_,AJ,hZw,⟨rfl,rfl,rfl,kc,λj _ hj=>hne j (λe=>hj (e▸T3 hb hlive rfl))⟩⟩
     ·rw [hzq] at hset
      simp [Instr.mapUpdate,CT u1,hr,hget,u4,Instr.findKey,CT u3,hzq,hfn,hset]
     ·refine hW.set hb hlive rfl rfl ⟨trivial,trivial⟩ kc ⟨rfl,rfl,rfl⟩ hne ?_
      refine ⟨es.push {key:=z,val:=u,born:=clock},clock+1,by simp [w',hlt],?_,λx hx=>?_⟩
      ·rw [Array.toList_push,I2,I2,g2]
       simp [hzq,aPz hd]
      ·rw [Array.toList_push,Bp] at hx
       rcases hx with hx|hx
       ·exact g3 x hx
       ·grind
    ·cases h
   ·cases h
  ·exact aCW hW h hr hq hu hrk
 ·exact aCW hW h hr hq hu hrk
def RW.axL {kd:IntKind}{t:TypeId}(hW:RW G w0 Z0 Z β H w):
  ∃β',(∀k,k<H.length->β' k=β k)/\(β' H.length).b=w.heap.size/\RW G w0 Z0 Z β' (H++[⟨[],t,.mp kd [] [],false⟩]) (w.alloc (.map #[] 0))/\Below w.heap.size w (w.alloc (.map #[] 0)):=by
 have hbw:Below w.heap.size w (w.alloc (.map #[] 0)):=(Below.refl _ _).alloc (At _) _
 obtain ⟨β',h1,h2,h3⟩:=(hW.same hbw).KJ (ℓ:=⟨w.heap.size,0,none⟩) (nb:=⟨[],t,.mp kd [] [],false⟩) rfl ⟨trivial,trivial⟩ (λ_=>⟨λhz=>Zz,hW.below.size,λj bj hj lj e=>SS⟩) (λβ' h1 h2=>by
  simp only [BU,h2];refine ⟨#[],0,?_,AJ,aH⟩
  show (w.heap.push _)[w.heap.size]? =_
  simp)
 grind
def RW.ay8 {e:Ty}{t:TypeId}(hW:RW G w0 Z0 Z β H w):
  ∃β',(∀k,k<H.length->β' k=β k)/\(β' H.length).b=w.heap.size/\RW G w0 Z0 Z β' (H++[⟨[],t,.st e [],false⟩]) (w.alloc (.map #[] 0))/\Below w.heap.size w (w.alloc (.map #[] 0)):=by
 have hbw:Below w.heap.size w (w.alloc (.map #[] 0)):=(Below.refl _ _).alloc (At _) _
 obtain ⟨β',h1,h2,h3⟩:=(hW.same hbw).KJ (ℓ:=⟨w.heap.size,0,none⟩) (nb:=⟨[],t,.st e [],false⟩) rfl ⟨trivial,trivial⟩ (λ_=>⟨λhz=>Zz,hW.below.size,λj bj hj lj e=>SS⟩) (λβ' h1 h2=>by
  simp only [BU,h2];refine ⟨#[],0,?_,AJ,AJ⟩
  show (w.heap.push _)[w.heap.size]? =_
  simp)
 grind
end Go.Sx
namespace Go.Sx
open Go Go.RowKit Go.Proofs.YtgmhhjldohjpmaaGreatDoor
variable {P : Program} {G : Av} {Γ : Specs} {β : Nat -> Loc} {Z : Nat -> Prop} {Z0 : Gz} {w w0 : World} {F : List LV} {H : List AB} {a : Act} {ds : List Deferred}
abbrev β0:Nat->Loc:=λ_=>⟨0,0,none⟩
def Valid (P:Program) (G:Av) (f:FuncId) (S:List LV->T LV):Prop:=
 ∀(args:List LV) (vals:Array Value) (w:World) (Z:Nat->Prop) (lv:LV),(∀b,Z b->b<w.heap.size)->PQ G Z w->AR 0 args->RL β0 Z w args vals.toList->(S args).all (λx=>x=lv)->
  Calls P f vals w λe w'=>Below w.heap.size w w'/\∃v,e=.returned v/\okV 0 lv/\R β0 (λb=>Z b\/(w.heap.size<=b/\b<w'.heap.size)) w' lv v
mutual
def noOwn_ok {n:Nat}:∀(x:LV),noOwn x=true->okV n x->okV 0 x
 | .v _,_,_=>trivial
 | .bl _,_,_=>trivial
 | .ki _ _,_,_=>trivial
 | .own _ _,h,_=>kL
 | .agg l,h,hk=>Zv
 | .AM l,h,hk=>Zv
 | .fn _ l,h,hk=>Zv
 | .fb _ l,h,hk=>Zv
 | .xq _ _,_,hk=>aNZ
 | .os ..,h,_=>kL
 | .op ..,h,_=>kL
 | .om _,h,_=>kL
 | .mp _ _ l,h,hk=>Zv
 | .xl _ _,_,_=>trivial
 | .junk,_,_=>trivial
def noOwnL_ok {n:Nat}:∀(x:List LV),noOwnL x=true->AR n x->AR 0 x
 | [],_,_=>trivial
 |x::xs,h,hk=>by
  simp only [AR,noOwnL,AU] at*;exact ⟨noOwn_ok x h.1 hk.1,noOwnL_ok xs h.2 hk.2⟩
end
def aCd {t:T LV}{lv:LV}(h:(Q9 t).all (λx=>x=lv)):t.all (λx=>x=lv)/\Rk lv=true:=by
 induction t with
 |ok x=>
  simp only [Q9] at h;split at h
  ·rename_i hp;simp only [T.all] at h|-;subst h;exact ⟨rfl,hp⟩
  ·cases h
 |br b t e iht ihe=>
  cases b with
  |true=>obtain ⟨h1,h2⟩:=iht (h.1 rfl);exact ⟨⟨λ_=>h1,λhb=>Ku⟩,h2⟩
  |false=>obtain ⟨h1,h2⟩:=ihe (h.2 rfl);exact ⟨⟨λhb=>Ku,λ_=>h1⟩,h2⟩
 |req p t ih=>
  obtain ⟨h1,h2⟩:=ih h.2;exact ⟨⟨h.1,h1⟩,h2⟩
 |no=>cases h
def OV (G:Av) (F:List LV) (β:Nat->Loc) (H:List AB) (o:Oper):List Nat:=DP β H (EX G F o)
def Post (ds:List Deferred) (G:Av) (w0:World) (Z0:Gz) (F:List LV) (a:Act) (β:Nat->Loc) (H:List AB) (w:World) (o:Oper) (lv:LV) (H':List AB) (v:Value) (w':World):Prop:=
 ∃Z' β',RW G w0 Z0 Z' β' H' w'/\RF ds β' Z' w' H'.length F a/\R β' Z' w' lv v/\okV H'.length lv/\
  H.length<=H'.length/\(∀k,k<H.length->β' k=β k)/\(∀k,H.length<=k->k<H'.length->w.heap.size<=(β' k).b\/(β' k).b∈OV G F β H o)/\DM (OV G F β H o) w w'
def N2 {tr:List Nat}{w w':World}(h:Below w.heap.size w w'):DM tr w w':=⟨h.os,h.tape,h.output,h.size,λk hk _=>h.block k hk⟩
def aCK {o:Oper}{lv:LV}{v:Value}(hW:RW G w0 Z0 Z β H w) (hF:RF ds β Z w H.length F a) (hrun:(execOp a.eval o).run P w=.ok (.value v) w) (hr:R β Z w lv v) (hk:okV H.length lv):
  DV P (Post ds G w0 Z0 F a β H w o lv H) ((execOp a.eval o).run P w):=by
 rw [hrun];exact ⟨Z,β,hW,hF,hr,hk,At _,λ_ _=>rfl,λk h1 h2=>A0,DM.refl _ _⟩
def aBF {α:Type}{s:Sem α}{x:α}(h:Ij P s=some x):∀w',s.run P w'=.ok x w':=λw'=>ax w' h
mutual
def eqV_run:∀(d:Nat) (t:TypeId) (x y:Value) (b:Bool),eqV P d t x y=some b->∀(e:Nat) (w:World),(Go.Op.equalIn (d+e) t x y).run P w=.ok b w
 |0,_,_,_,_,h=>by simp [eqV] at h
 | d+1,t,x,y,b,h=>λe w=>by
  rw [Nat.add_right_comm];simp only [eqV] at h;split at h
  ·rename_i k0 k a k' c hu
   split at h
   ·rename_i hk
    subst hk;simp only [Ad] at h;subst h;exact run_equalIn_int w _ t k k0 a c hu
   ·cases h
  ·rename_i a c hu
   simp only [Ad] at h;subst h;exact run_equalIn_bool w _ t a c hu
  ·rename_i a c hu
   simp only [Ad] at h;subst h;rw [run_equalIn_string w _ t a c hu,beq_toListBytes]
  ·rename_i fs xs ys hu
   split at h
   ·cases h
   ·rename_i hs
    have hf:P.fieldsOf t=fs:=by simp [Program.fieldsOf,hu]
    rw [run_equalIn_struct w _ t xs ys (by rw [hf];exact hu) (by simpa using hs),hf]
    simp only [Option.map_eq_some_iff] at h;obtain ⟨l,h1,h2⟩:=h;rw [<-h2];exact eqFs_run d xs ys fs.toList l h1 e w
  ·cases h
def eqFs_run:∀(d:Nat) (xs ys:Array Value) (fs:List Field) (l:List Bool),eqFs P d xs ys fs=some l->∀(e:Nat) (w:World),(Go.Op.eqFields (d+e) xs ys fs).run P w=.ok (Um l) w
 |d,xs,ys,[],l,h=>λe w=>by
  have:l=[]:=by cases d<;>simpa [eqFs] using h.symm
  subst this
  simp [Go.Op.eqFields,Um]
 |0,xs,ys,f::fs,l,h=>by simp [eqFs] at h
 | d +1,xs,ys,f::fs,l,h=>λe w=>by
  simp only [eqFs] at h;split at h
  ·cases h
  ·rename_i hn
   split at h
   ·rename_i x y hx hy
    split at h
    ·rename_i p ps hp hps
     simp only [Ad] at h;subst h
     have e1:=aBF hx w
     have e2:=aBF hy w
     have e3:=eqV_run d f.type x y p hp (1+e) w
     have e4:=eqFs_run d xs ys fs ps hps (1+e) w
     rw [<-HL] at e3 e4;simp only [Go.Op.eqFields,hn,ne_eq,not_false_eq_true,Bm,jd,e1,e2,e3,j8,Sem.run_ite,wP,e4];cases p with
     |false=>cases ps<;>simp [Um]
     |true=>cases ps<;>simp [Um]
    ·cases h
   ·cases h
end
def afv {o:Oper}{e:Operand->Value}{y:Value}(h:QD P o.op e=some (some y)) (w:World):(execOp e o).run P w=.ok (.value y) w:=by
 unfold QD at h;split at h
 ·rename_i op t x z t' ho
  split at h
  ·rename_i neg hneg
   split at h
   ·rename_i xs ys hx hy
    split at h
    ·rename_i g1 b g2 g3
     have e1:=aBF g2 w
     have e2:=eqV_run 100 t _ _ b g3 9900 w
     simp only [Ad] at h;unfold aQW at hneg;split at hneg
     ·simp only [Ad] at hneg
      subst hneg h
      simp [execOp,ho,hx,hy,e1,run_eql_struct,e2]
     ·simp only [Ad] at hneg
      subst hneg h
      simp [execOp,ho,hx,hy,e1,run_neq_struct,e2]
     ·cases hneg
    ·cases h
   ·cases h
  ·cases h
 ·cases h
def aDo {o:Oper}{e:Operand->Value}{y:Value}(h:O1 P o e=some y) (w:World):(execOp e o).run P w=.ok (.value y) w:=by
 unfold O1 at h;split at h
 ·rename_i r hr
  subst h;exact afv hr w
 ·split at h
  ·rename_i z hz
   simp only [Ad] at h;subst h;exact ax w hz
  ·cases h
def aJW (y:Value):R β Z w (kn y) y:=by cases y<;>simp only [kn,R]
def abJ {n:Nat}(y:Value):okV n (kn y):=by cases y<;>trivial
def afB {o:Oper}{lv:LV}(hsel:∀cs b,o.op≠ .select cs b) (hW:RW G w0 Z0 Z β H w) (hF:RF ds β Z w H.length F a) (h:(DY P G F o).all (λx=>x=lv)):
  DV P (Post ds G w0 Z0 F a β H w o lv H) ((execOp a.eval o).run P w):=by
 unfold DY at h;split at h
 ·rename_i hpl
  split at h
  ·rename_i y hy
   have hcong:execOp a.eval o=execOp (λx=>(pl (AL G F x)).getD undef) o:=jO o hsel λx hx=>by
    have h1:=BL.1 hpl x AA
    obtain ⟨z,hz⟩:=ZJ.1 h1;rw [hz];exact Cb hz (hF.eval hW.CV x).1
   refine aCK hW hF (v:=y) ?_ ?_ ?_
   ·rw [hcong];exact aDo hy w
   ·rw [<-h]
    split
    ·exact aJW y
    ·exact Dk
   ·rw [<-h]
    split
    ·exact abJ y
    ·trivial
  ·cases h
 ·cases h
def ae0 {c x y lv:LV}{vc vx vy:Value}{n:Nat}(h:(fV c x y).all (λz=>z=lv)) (hc:R β Z w c vc) (hx:R β Z w x vx) (hy:R β Z w y vy) (kx:okV n x) (ky:okV n y):
  ∃g,vc=.bool g/\R β Z w lv (if g then vx else vy)/\okV n lv:=by
 unfold fV at h;split at h
 ·simp only [T.all] at h;subst h;exact ⟨true,hc,hx,kx⟩
 ·simp only [T.all] at h;subst h;exact ⟨false,hc,hy,ky⟩
 ·rename_i g
  refine ⟨g,hc,?_⟩
  have hx':=OY hx
  have hy':=OY hy
  split at h
  ·rename_i h1 h2
   split at h
   ·rename_i hk;simp only [T.all] at h;subst h hk;rw [h1] at hx';rw [h2] at hy';simp only [R] at hx' hy'|-;subst hx' hy';exact ⟨AA,trivial⟩
   ·cases h
  ·rename_i h1 h2
   simp only [T.all] at h;subst h;rw [h1] at hx';rw [h2] at hy';simp only [R] at hx' hy'|-;subst hx' hy';exact ⟨AA,trivial⟩
  ·simp only [T.all] at h
   cases g with
   |true=>have:=h.1 rfl;subst this;exact ⟨hx,kx⟩
   |false=>have:=h.2 rfl;subst this;exact ⟨hy,ky⟩
 ·cases h
def aCb {t:TypeId}{l:List LV}{lv:LV}{ys:Array Value}{i n:Nat}(h:(aAr P t l i).all (λz=>z=lv)) (hr:RL β Z w l ys.toList) (hk:AR n l):
  ∃z,(∀w',(Instr.field t (.agg ys) i).run P w'=.ok z w')/\R β Z w lv z/\okV n lv:=by
 unfold aAr at h;split at h
 ·rename_i fs hu
  split at h
  ·rename_i f hf
   split at h
   ·rename_i m ha hs
    split at h
    ·simp only [T.all] at h
     subst h;refine ⟨.agg (ys.extract f.offset (f.offset+m)),λw'=>?_,Vy ?_,Px (hk.take_drop _ _)⟩
     ·simp [Instr.field,CT hu,hf,asAgg,part,bR ha,run_sizeOf hs]
     ·have:=hr.take_drop f.offset m
      simp_all
    ·cases h
   ·rename_i ha
    split at h
    ·rename_i y hy
     subst h;obtain ⟨z,e4,e5⟩:=RL.get _ _ hr hy
     have e6:ys[f.offset]? =some z:=AA
     refine ⟨z,λw'=>?_,e5,AR.get _ _ hk hy⟩
     simp [Instr.field,CT hu,hf,asAgg,part,bR ha,e6]
    ·cases h
   ·cases h
  ·cases h
 ·cases h
def adu {s:TypeId}{x lv:LV}{y:Value}{i n:Nat}(h:(Wa P s x i).all (λz=>z=lv)) (hr:R β Z w x y) (hk:okV n x):
  ∃z,(∀w',(Instr.fieldAt s y i).run P w'=.ok z w')/\R β Z w lv z/\okV n lv:=by
 unfold Wa at h;split at h
 ·rename_i fs hu
  split at h
  ·rename_i f hf
   split at h
   ·rename_i m hsz
    have e1:=λw=>run_sizeOf hsz w
    split at h
    ·rename_i k off
     simp only [R] at hr;refine ⟨.pointer (some ⟨(β k).b,off+f.offset,none⟩),λw'=>?_,?_,?_⟩
     ·simp [Instr.fieldAt,CT hu,hf,Instr.sureAddr,hr,fieldPlace,e1,addr_add]
     ·rw [<-h];simp only [R]
     ·rw [<-h];simpa only [okV] using hk
    ·rename_i k es i' j
     obtain ⟨hcap,hr⟩:=hr;refine ⟨.pointer (some ⟨(β k).b,(β k).o+i'*es+(j+f.offset),none⟩),λw'=>?_,?_,?_⟩
     ·simp [Instr.fieldAt,CT hu,hf,Instr.sureAddr,hr,fieldPlace,e1,addr_add,HL]
     ·rw [<-h];simp only [R];exact ⟨hcap,trivial⟩
     ·rw [<-h];simpa only [okV] using hk
    ·rename_i q g
     split at h
     ·rename_i hle
      obtain ⟨b,off,h1,h2,h3⟩:=hr;refine ⟨.pointer (some ⟨b,off+f.offset,none⟩),λw'=>?_,?_,?_⟩
      ·simp [Instr.fieldAt,CT hu,hf,Instr.sureAddr,h1,fieldPlace,e1,addr_add]
      ·rw [<-h]
       refine ⟨b,off+f.offset,rfl,h2,λj hj=>?_⟩
       have:=h3 (f.offset+j) A0
       grind
      ·rw [<-h];simp only [okV] at hk|-;exact λj=>hk _
     ·cases h
    ·cases h
   ·cases h
  ·cases h
 ·cases h
def az {n:Int}{g:Nat->LV}{lv:LV}:∀(m j:Nat),(chain n g m j).all (λz=>z=lv)->∃i,j<=i/\i<j+m/\n=(i:Int)/\lv=g i
 |0,j,h=>Ah
 | m+1,j,h=>by
  simp only [chain,T.all] at h
  by_cases hn:n=(j:Int)
  ·grind
  ·obtain ⟨i,h1,h2,h3,h4⟩:=az m (j+1) (h.2 AA)
   grind
def aCm {x:LV}{y:Value}{l:List LV}{n:Nat}(h:vp x=some l) (hr:R β Z w x y) (hk:okV n x):∃ys:Array Value,y=.agg ys/\RL β Z w l ys.toList/\AR n l:=by
 unfold vp at h;split at h
 ·obtain rfl:=Dw h
  obtain ⟨ys,e1,e2⟩:=hr;exact ⟨ys,e1,e2,hk⟩
 ·rename_i ys
  obtain rfl:=Dw h;exact ⟨ys,hr,UZ _,TI _ _⟩
 ·cases h
def aCX {t:TypeId}{l:List LV}{q lv:LV}{ys:Array Value}{z:Value}{n:Nat}(h:(aAl P t l q).all (λr=>r=lv)) (hr:RL β Z w l ys.toList) (hk:AR n l) (hq:R β Z w q z):
  ∃v,(∀w',(Instr.index t (.agg ys) z).run P w'=.ok v w')/\R β Z w lv v/\okV n lv:=by
 unfold aAl at h;split at h
 ·rename_i len e k j hu
  split at h
  ·rename_i y ha hs hy
   split at h
   ·rename_i hb
    subst h;simp only [R] at hq;obtain ⟨v,e4,e5⟩:=RL.get _ _ hr hy
    have e6:ys[j.toNat]? =some v:=AA
    refine ⟨v,λw'=>?_,e5,AR.get _ _ hk hy⟩
    simp [Instr.index,hq,asIntOf,CT hu,hb.1,hb.2,part,bR ha,run_sizeOf hs,e6]
   ·cases h
  ·cases h
 ·cases h
def aBC {t:TypeId} {x q lv:LV} {y z:Value} {c:Bool} {N:Nat} (h:(TA P t x c q).all (λr=>r=lv)) (hr:R β Z w x y) (hq:R β Z w q z) (hk:okV N x):
  ∃v,(∀w',(Instr.indexAt t y z).run P w'=.ok v w')/\R β Z w lv v/\okV N lv:=by
 unfold TA at h;simp only [asa] at h;split at h
 ·rename_i kd n hpl
  have hz:=Cb hpl hq
  split at h
  ·rename_i len e hu
   split at h
   ·rename_i m hsz
    have e1:=λw=>run_sizeOf hsz w
    have fin:∀(b off i:Nat),i<len->n=(i:Int)->y=.pointer (some ⟨b,off,none⟩)->∀w',(Instr.indexAt t y z).run P w'=.ok (.pointer (some ⟨b,off+i*(m+1),none⟩)) w':=λb off i hi hn hy w'=>by
     have h0:(0:Int)<=n:=A0
     have h1:n<(len:Int):=A0
     have h2:n.toNat=i:=A0
     simp [Instr.indexAt,hz,asIntOf,CT hu,hy,Instr.sureAddr,h0,h1,e1,addr_add,h2]
    have own:∀(k off i:Nat),i<len->n=(i:Int)->R β Z w (.own k off) y->okV N (.own k off)->lv=.own k (off+i*(m+1))->∃v,(∀w',(Instr.indexAt t y z).run P w'=.ok v w')/\R β Z w lv v/\okV N lv:=λk off i hi hn hr hk hl=>by
     simp only [R] at hr;refine ⟨_,fin _ _ i hi hn hr,?_,?_⟩
     ·rw [hl];simp only [R]
     ·exact xI
    have opp:∀(k es i' j i:Nat),i<len->n=(i:Int)->R β Z w (.op k es i' j) y->okV N (.op k es i' j)->lv=.op k es i' (j+i*(m+1))->∃v,(∀w',(Instr.indexAt t y z).run P w'=.ok v w')/\R β Z w lv v/\okV N lv:=λk es i' j i hi hn hr hk hl=>by
     simp only [R] at hr;refine ⟨_,fin _ _ i hi hn hr.2,?_,?_⟩
     ·rw [hl];simp only [R,HL];exact ⟨hr.1,trivial⟩
     ·exact xI
    have ext:∀(q:Nat) (g:Nat->LV) (i:Nat),i<len->len*(m+1)<=q->n=(i:Int)->R β Z w (.xq q g) y->okV N (.xq q g)->lv=.xq (m+1) (λj=>g (i*(m+1)+j))->∃v,(∀w',(Instr.indexAt t y z).run P w'=.ok v w')/\R β Z w lv v/\okV N lv:=λq g i hi hle hn hr hk hl=>by
     simp only [R] at hr;obtain ⟨b,off,h1,h2,h3⟩:=hr;refine ⟨_,fin _ _ i hi hn h1,?_,?_⟩
     ·rw [hl]
      simp only [R];refine ⟨b,_,rfl,h2,λj hj=>?_⟩
      have hm:i*(m+1)+(m+1)<=len*(m+1):=by
       have:=Mr (m+1) (show i+1<=len by omega)
       rwa [Ft,SH] at this
      have:=h3 (i*(m+1)+j) A0
      rwa [<-HL] at this
     ·rw [hl];simp only [okV] at hk|-;exact λj=>hk _
    split at h
    ·rename_i k es i' j
     split at h
     ·split at h
      ·rename_i hb
       simp only [T.all] at h;exact opp k es i' j n.toNat A0 A0 hr hk h.symm
      ·cases h
     ·obtain ⟨i,_,h2,h3,h4⟩:=az _ _ h
      exact opp k es i' j i A0 h3 hr hk h4
    ·rename_i k off
     split at h
     ·split at h
      ·rename_i hb
       simp only [T.all] at h;exact own k off n.toNat A0 A0 hr hk h.symm
      ·cases h
     ·obtain ⟨i,_,h2,h3,h4⟩:=az _ _ h
      exact own k off i A0 h3 hr hk h4
    ·rename_i q g
     split at h
     ·rename_i hle
      split at h
      ·split at h
       ·rename_i hb
        simp only [T.all] at h;exact aL9
       ·cases h
      ·split at h
       ·obtain ⟨i,_,h2,h3,h4⟩:=az _ _ h
        exact ext q g i A0 hle h3 hr hk h4
       ·simp only [T.all] at h
        obtain ⟨⟨b1,b2⟩,h⟩:=h;exact aL9
     ·cases h
    ·cases h
   ·cases h
  ·rename_i e hu
   split at h
   ·rename_i m e' l hsz
    split at h
    ·rename_i hes
     simp only [T.all] at h;obtain ⟨⟨h0,h1⟩,h2⟩:=h;simp only [R] at hr;obtain ⟨ad,cap,g1,gc,g2⟩:=hr;obtain ⟨b,off,g3,g4,g5⟩:=g2 A0
     have e1:=λw=>run_sizeOf hsz w
     have hlt:n.toNat<List.length l:=A0
     have hgx:l[n.toNat]? =some (gx l n):=AA
     have g6:=g5 n.toNat _ hgx
     refine ⟨.pointer (some ⟨b,off+n.toNat*(m+1),none⟩),λw'=>?_,?_,?_⟩
     ·simp [Instr.indexAt,hz,asIntOf,CT hu,g1,g3,h0,h1,e1,addr_add]
     ·rw [<-h2]
      simp only [R];refine ⟨b,_,rfl,g4,λj hj=>?_⟩
      rw [hes] at g6
      have hjl:j<(Bk e' (gx l n)).length:=yO
      exact Wb e' _ b _ g6 j _ (getD_lt hjl)
     ·rw [<-h2]
      simp only [okV];exact λj=>nw (NC 0 e' _) j
    ·cases h
   ·rename_i m k es off len hsz
    split at h
    ·rename_i hes
     simp only [T.all] at h;obtain ⟨⟨h0,h1⟩,h2⟩:=h
     have e1:=λw=>run_sizeOf hsz w
     simp only [R] at hr;split at hr
     ·obtain ⟨rfl,_,_⟩:=hr
      exact absurd h1 Cn
     ·rename_i c hcap
      obtain ⟨g1,ad,g2,g3⟩:=hr
      have g3:=g3 A0
      refine ⟨.pointer (some ⟨(β k).b,(β k).o+(off+n.toNat)*es+0,none⟩),λw'=>?_,?_,?_⟩
      ·simp [Instr.indexAt,hz,asIntOf,CT hu,g2,g3,h0,h1,e1,addr_add,hes,Ft,HL]
      ·rw [<-h2];simp only [R];exact ⟨by rw [hcap];simp,trivial⟩
      ·rw [<-h2];simpa only [okV] using hk
    ·cases h
   ·rename_i m k es off len cp hsz
    split at h
    ·rename_i hes
     have e1:=λw=>run_sizeOf hsz w
     have own:∀(i:Nat),i<len->n=(i:Int)->lv=.own k ((off+i)*(m+1))->∃v,(∀w',(Instr.indexAt t y z).run P w'=.ok v w')/\R β Z w lv v/\okV N lv:=λi hi hn hl=>by
      simp only [R] at hr;obtain ⟨g1,ad,g2,g3⟩:=hr
      have g3:=g3 A0
      have h0:(0:Int)<=n:=A0
      have h1:n<(len:Int):=A0
      have h2:n.toNat=i:=A0
      refine ⟨.pointer (some ⟨(β k).b,(off+i)*(m+1),none⟩),λw'=>?_,?_,?_⟩
      ·simp [Instr.indexAt,hz,asIntOf,CT hu,g2,g3,h0,h1,e1,addr_add,hes,Ft,h2]
      ·rw [hl];simp only [R]
      ·exact xI
     split at h
     ·split at h
      ·rename_i hb
       simp only [T.all] at h;exact own n.toNat A0 A0 h.symm
      ·cases h
     ·obtain ⟨i,_,h2,h3,h4⟩:=az _ _ h
      exact own i A0 h3 h4
    ·cases h
   ·cases h
  ·cases h
 ·cases h
def aDt (off:Nat):∀(l:List Value) (s:Nat) (zs:Array Value) (i:Nat),off+s+l.length<=zs.size->
  ((l.zipIdx s).foldl (λ(cs:Array Value) p=>cs.setIfInBounds (off+p.2) p.1) zs).size=zs.size/\
  ((l.zipIdx s).foldl (λ(cs:Array Value) p=>cs.setIfInBounds (off+p.2) p.1) zs)[i]? =if off+s<=i/\i<off+s+l.length then l[i-(off+s)]? else zs[i]?
 | [],s,zs,i,_=>by simp;intro h1 h2;omega
 | x::xs,s,zs,i,h=>by
  simp only [List.zipIdx_cons,Jp];obtain ⟨h1,h2⟩:=aDt off xs (s+1) (zs.setIfInBounds (off+s) x) i AA;refine ⟨AA,?_⟩;rw [h2];simp only [BX] at h|-
  by_cases hi:i=off+s
  ·subst hi
   rw [AD A0,AE A0,Array.getElem?_setIfInBounds,AE rfl,AE A0]
   simp
  ·by_cases hr:off+(s+1)<=i/\i<off+(s+1)+xs.length
   ·rw [AE hr,AE A0]
    grind
   ·rw [AD hr,AD A0]
    grind
def afh (off:Nat) (vs zs:Array Value) (h:off+vs.size<=zs.size):
  (vs.zipIdx.foldl (λ(cs:Array Value) (p:Value×Nat)=>cs.setIfInBounds (off+p.2) p.1) zs).toList=zs.toList.take off++vs.toList++zs.toList.drop (off+vs.toList.length):=by
 have e:vs.zipIdx.foldl (λ(cs:Array Value) (p:Value×Nat)=>cs.setIfInBounds (off+p.2) p.1) zs=(vs.toList.zipIdx 0).foldl (λ(cs:Array Value) p=>cs.setIfInBounds (off+p.2) p.1) zs:=by
  rw [<-Array.foldl_toList];simp
 rw [e]
 apply List.ext_getElem?
 intro i
 have:=(aDt off vs.toList 0 zs i AA).2
 rw [Array.getElem?_toList,this];simp only [ZU,wM]
 by_cases h1:i<off
 ·grind
 ·by_cases h2:i<off+vs.size
  ·rw [AE A0,CZ,Fu AA,HN AA]
   grind
  ·rw [AD A0,Fu AA,Ew]
   simp
   congr 1
   omega
def ay {place:Nat->Option (Nat×Nat)}{n:Nat}:∀(pl:List (Nat×LV)) (pv:List (Nat×Value)) (cells cs:List LV) (zs:Array Value),KG place cells pl=some cs->pv.map (·.1)=pl.map (·.1)->
  RL β Z w (pl.map (·.2)) (pv.map (·.2))->AR n (pl.map (·.2))->RL β Z w cells zs.toList->AR n cells->∃zs',Instr.fill place zs pv=some zs'/\RL β Z w cs zs'.toList/\AR n cs
 | [],pv,cells,cs,zs,h,hp,hr,_,hc,hok=>by
  simp only [KG,Ad] at h;subst h
  have:pv=[]:=HR
  subst this;exact ⟨zs,rfl,hc,hok⟩
 | (i,x)::rest,pv,cells,cs,zs,h,hp,hr,hk,hc,hok=>by
  cases pv with
  |nil=>simp at hp
  | cons q qs=>
   obtain ⟨i',v⟩:=q;simp only [E8,HK] at hp;obtain ⟨rfl,hp'⟩:=hp;obtain ⟨y,ys,e1,e2,e3⟩:=hr;obtain ⟨rfl,rfl⟩:=e1;simp only [KG] at h;split at h
   ·rename_i off size c hpl hcl
    split at h
    ·rename_i hle
     obtain ⟨c1,c2⟩:=nQ hcl e2
     have c3:=mq hcl hk.1
     have l1:=RL.length c1
     have l2:=RL.length hc
     have hle2:off+v.cells.size<=zs.size:=AA
     have hset:=afh off v.cells zs hle2
     have hrl:=RL.setAt hc c1 off
     rw [<-hset] at hrl;obtain ⟨zs',f1,f2,f3⟩:=ay rest qs _ cs _ h hp' e3 hk.2 hrl (AR.setAt hok c3 off);refine ⟨zs',?_,f2,f3⟩;simp only [Instr.fill,hpl]
     grind
    ·cases h
   ·cases h
def adq {t:TypeId}{pl:List (Nat×LV)}{pv:Array (Nat×Value)}{lv:LV}{n:Nat}(h:(NK P t pl).all (λz=>z=lv)) (hp:pv.toList.map (·.1)=pl.map (·.1)) (hr:RL β Z w (pl.map (·.2)) (pv.toList.map (·.2))) (hk:AR n (pl.map (·.2))):
  ∃v,(∀w',(Instr.build t pv).run P w'=.ok v w')/\R β Z w lv v/\okV n lv:=by
 unfold NK at h;split at h
 ·rename_i z pf hz hpf
  split at h
  ·rename_i cs hcs
   obtain ⟨zs',f1,f2,f3⟩:=ay (β:=β) (Z:=Z) (w:=w) (n:=n) pl pv.toList _ cs z.cells hcs hp hr hk (UZ _) (TI _ _);refine ⟨.agg zs',λw'=>run_build w' t pv zs' ?_,?_,?_⟩
   ·unfold IA at hz
    unfold aON at hpf;unfold Program.built;cases hi:P.info? t with
    |none=>simp [hi] at hz
    | some it=>
     simp only [hi,O7] at hz;split at hpf
     ·rename_i fields hu
      cases hm:fields.toList.mapM (λf=>(P.info? f.type).map λi=>(f.offset,i.size)) with
      |none=>simp [hm] at hpf
      |some ps=>
       simp only [hm,JH,Ad] at hpf;simp only [hu,hz,hm];rw [<-hpf] at f1;exact f1
     ·rename_i e hu
      cases hm:P.info? e with
      |none=>simp [hm] at hpf
      |some ie=>
       simp only [hm,JH,Ad] at hpf;simp only [hu,hz,hm];rw [<-hpf] at f1;exact f1
     ·cases hpf
   ·rw [<-h]
    split
    ·simp only [R];exact ⟨zs',rfl,f2⟩
    ·exact Vy f2
   ·rw [<-h]
    split
    ·exact f3
    ·exact Px f3
  ·cases h
 ·cases h
def cN {x:Operand}{y:Value}{n:Nat}(h:R β Z w (AL G F x) y/\okV n (AL G F x)):R β Z w (Hb G F x) y/\okV n (Hb G F x):=by
 cases x with
 |const v=>exact ⟨OY h.1,Sr h.2⟩
 |tmp t=>exact h
 |global g=>exact h
 |func f=>exact h
def tl (e:Ty):∀(n:Nat) (cs:List LV) (l:List e.D) (ys:List Value),aR e n cs=some l->RL β Z w cs ys->List.length l=n/\∀(Z':Nat->Prop) (w':World) (b o:Nat),(∀b,Z b->Z' b)->(∀b,Z b->w'.heap[b]? =w.heap[b]?)->(∀(j:Nat) v,ys[j]? =some v->w'.cell? ⟨b,o+j,none⟩=some v)->∀(i:Nat) (d:e.D),l[i]? =some d->RD Z' w' e d b (o+i*e.n)
 |0,cs,l,ys,h,hr=>by
  simp only [aR,Ad] at h
  grind
 | n +1,cs,l,ys,h,hr=>by
  simp only [aR] at h;split at h
  ·rename_i d r hd hr'
   simp only [Ad] at h;subst h
   have h1:RL β Z w (cs.take e.n) (ys.take e.n):=by simpa using hr.take_drop 0 e.n
   have h2:RL β Z w (cs.drop e.n) (ys.drop e.n):=by
    refine RL.CO (by simp [RL.length hr]) λi z hz=>?_
    rw [Ew] at hz|-;exact RL.get _ _ hr hz
   obtain ⟨k1,k2⟩:=tl e n _ r _ hr' h2;refine ⟨AA,λZ' w' b o hZ hw hc i d' hd'=>?_⟩
   cases i with
   |zero=>
    simp at hd'
    subst hd';rw [jM,ZU];refine tm hZ hw e _ d _ hd h1 b o (λj v hv=>?_)
    rw [Kq] at hv;split at hv
    ·grind
    ·cases hv
   | succ i=>
    have:=k2 Z' w' b (o+e.n) hZ hw (λj v hv=>by
     rw [Ew] at hv
     have:=hc (e.n+j) v hv
     rwa [<-HL] at this) i d' hd'
    grind
  ·cases h
def aCh {t:TypeId}{len:Nat}{pl:List (Nat×LV)}{pv:Array (Nat×Value)}{lv:LV}{n:Nat}(h:(LN P t len pl).all (λz=>z=lv)) (hp:pv.toList.map (·.1)=pl.map (·.1)) (hr:RL β Z w (pl.map (·.2)) (pv.toList.map (·.2))) (hk:AR n (pl.map (·.2))):
  ∃elem cells,(∀w',(Instr.buildSlice t len pv).run P w'=.ok (.slice (some ⟨w'.heap.size,0,none⟩) len len) (w'.alloc (.cells cells elem)))/\
   (∀(β':Nat->Loc) (Z':Nat->Prop) (w':World) (b:Nat),(∀b,Z b->Z' b)->(∀b,Z b->w'.heap[b]? =w.heap[b]?)->(∀(j:Nat) v,cells.toList[j]? =some v->w'.cell? ⟨b,0+j,none⟩=some v)->Z' b->R β' Z' w' lv (.slice (some ⟨b,0,none⟩) len len))/\okV n lv:=by
 unfold LN at h;split at h
 ·rename_i e hu
  split at h
  ·rename_i ty m z hty hsz hz
   split at h
   ·rename_i hcond
    split at h
    ·rename_i cs hcs
     split at h
     ·rename_i l hl
      have hz0:RL β Z w ((List.range (len*m)).map (λi=>LV.v (z.cells[i%z.cells.size]!))) ((Array.range (len*m)).map (λi=>z.cells[i%z.cells.size]!)).toList:=by
       exact wg
      have hok0:AR n ((List.range (len*m)).map (λi=>LV.v (z.cells[i%z.cells.size]!))):=by
       exact aLc
      obtain ⟨zs',f1,f2,f3⟩:=ay (β:=β) (Z:=Z) (w:=w) (n:=n) pl pv.toList _ cs _ hcs hp hr hk hz0 hok0;obtain ⟨k1,k2⟩:=tl ty len cs l _ hl f2;refine ⟨e,zs',λw'=>?_,λβ' Z' w' b hZ hw hc hzb=>?_,by rw [<-h];trivial⟩
      ·exact x6
      ·rw [<-h]
       refine ⟨_,len,by rw [k1],A0,λ_=>⟨b,0,rfl,hzb,λi d hd=>?_⟩⟩
       exact k2 Z' w' b 0 hZ hw hc i d hd
     ·cases h
    ·cases h
   ·cases h
  ·cases h
 ·cases h
def aDN {place:Nat->Option (Nat×Nat)}:∀ {pl:List (Nat×LV)}{cells cs:List LV},KG place cells pl=some cs->cs.length=cells.length
 | [],cells,cs,h=>by
  simp only [KG,Ad] at h;rw [h]
 | (i,x)::rest,cells,cs,h=>by
  simp only [KG] at h;split at h
  ·split at h
   ·rename_i off size c _ _ hcond
    rw [aDN h];simp only [setAt,B0,G9,DE];omega
   ·cases h
  ·cases h
end Go.Sx
end
