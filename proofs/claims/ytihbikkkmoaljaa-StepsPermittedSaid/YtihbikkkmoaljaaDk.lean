/- Valid: what it computes, by the executor. -/
import Derived.Test.YtihbikkkmoaljaaDj
import Derived.Test.YtihbikkkmoaljaaDi
namespace Go.Proofs.Ytihbikkkmoaljaa
open Go.Sx
structure L_sv where
 r : Bool
 l : List ByteArray
 n : Int
 i : Int
 s_Conductors : List (ByteArray × (Int × (Int × (Int × ((Int × Int) × (Int × (Int × (Int × (Int × Int)))))))))
 s_Owners : List ByteArray
 s_Contracts : List (ByteArray × (Int × (Int × Int)))
 s_Chargers : List (ByteArray × (Int × (Int × (Int × (Int × (Int × (Int × Int)))))))
 s_Bays : List (ByteArray × Int)
 seen : List ByteArray
def A_sv (s : L_sv) : List LV := [.own 0 0, .v (.bool s.r), .om 1, .xl .str s.l, .v (.int .i64 s.n), .v (.int .i64 s.i)]
def B_sv (s : L_sv) : List Blk := [⟨[.xl tCd s.s_Conductors, .xl .str s.s_Owners, .xl tKo s.s_Contracts, .xl tCh s.s_Chargers, .xl tBa s.s_Bays], 30, .cl, false⟩, ⟨[], 94, .st .str s.seen, false⟩]
noncomputable def body_sv : Code := ((loopsIn (Try.f40.body.getD .skip))[0]?).getD .skip
def t_sv (s : L_sv) : T (Rd L_sv) :=
 .br (decide (s.i < s.n)) (.req (0 ≤ s.i ∧ s.i < (List.length s.l : Int)) (.br ((!(nameB (gS s.l s.i))) || (List.contains s.seen (gS s.l s.i))) (.ok (.stop (.ret) { s with r := false })) (.req (List.contains s.seen (gS s.l s.i) = false) (.ok (.next { s with i := (IntKind.i64.wrap (s.i + 1)), seen := (s.seen ++ [(gS s.l s.i)]) }))))) (.ok (.stop (.exit 0) s))
abbrev f_sv (s : L_sv) := (t_sv s).rd s
def G_sv (s : L_sv) (j : Int) : Bool := nameB (gS s.l j) && !(((s.l.take j.toNat).map id).contains (gS s.l j))
def E_sv (s : L_sv) : Prop := s.i = 0 ∧ s.seen = [] ∧ s.n = (s.l.length : Int) ∧ s.n ≤ 1000 ∧ True
def I_sv (s : L_sv) : Prop := 0 ≤ s.i ∧ s.i ≤ s.n ∧ s.n = (s.l.length : Int) ∧ s.n ≤ 1000 ∧ (True) ∧ s.seen = (s.l.take s.i.toNat).map id ∧ ∀ j : Nat, (j : Int) < s.i → G_sv s j = true
def mu_sv (s : L_sv) : Nat := (s.n - s.i).toNat
def Q_sv (x : Ex) (_ s' : L_sv) : Prop := (x = .exit 0 ∧ ∀ j : Nat, (j : Int) < s'.n → G_sv s' j = true) ∨ (x = .ret ∧ s'.r = false ∧ ∃ j : Nat, (j : Int) < s'.n ∧ G_sv s' j = false)
theorem sv_E : ∀ s, E_sv s → I_sv s := by
 intro s h
 obtain ⟨h0, h1, h2, h3, h4⟩ := h
 exact ⟨by omega, by omega, h2, h3, h4, by rw [h0, h1]; rfl, fun j hj => by omega⟩
theorem sv_da (s : L_sv) (hI : I_sv s) : allR (fun s' => I_sv s' ∧ mu_sv s' < mu_sv s) (fun x s' => Q_sv x s s') (f_sv s) := by
 unfold f_sv t_sv
 dsimp only [T.rd, T.rl]
 obtain ⟨h0, h1, h2, h3, h4, h5, h6⟩ := hI
 refine allR_ite (fun c1 => allR_ite (fun c2 => ?_) (fun c2 => ?_)) (fun c1 => ?_)
 ·have c1 : s.i < s.n := by simpa using c1
  refine .inr ⟨rfl, rfl, s.i.toNat, by simp only; omega, ?_⟩
  rw [Int.toNat_of_nonneg h0]
  have hg : G_sv s s.i = false := by
   unfold G_sv
   (rw [h5] at c2; revert c2; generalize nameB _ = a; generalize List.contains (α := ByteArray) _ _ = d; cases a <;> cases d <;> simp)
  exact hg
 ·have c1 : s.i < s.n := by simpa using c1
  have hg : G_sv s s.i = true := by
   unfold G_sv
   (rw [h5] at c2; revert c2; generalize nameB _ = a; generalize List.contains (α := ByteArray) _ _ = d; cases a <;> cases d <;> simp)
  rw [wrapS (x := s.i + 1) (by omega) (by omega)]
  refine ⟨⟨by simp only; omega, by simp only; omega, h2, h3, h4, ?_, fun j hj => ?_⟩, by simp only [mu_sv]; omega⟩
  ·simp only
   rw [(gS_step h0 (show s.i < s.l.length by omega)).2, h5]
   try rw [List.map_append]
   try rfl
  ·by_cases hji : (j : Int) < s.i
   ·exact h6 j hji
   ·have : (j : Int) = s.i := by simp only at hj; omega
    rw [this]; exact hg
 ·have c1 : s.n ≤ s.i := by simpa using c1
  exact .inl ⟨rfl, fun j hj => h6 j (by omega)⟩
def D_sv : LpD L_sv := ⟨0, 61, [1, 2, 3, 42, 43, 44], [], A_sv, B_sv, fun v b => ⟨gBo (v.getD 1 .junk), gXl .str (v.getD 3 .junk), gI (v.getD 4 .junk), gI (v.getD 5 .junk), gXl tCd (gCe (gBk b 0) 0), gXl .str (gCe (gBk b 0) 1), gXl tKo (gCe (gBk b 0) 2), gXl tCh (gCe (gBk b 0) 3), gXl tBa (gCe (gBk b 0) 4), gSe .str (gBk b 1)⟩, t_sv, fun s r => { r with l := s.l, n := s.n, s_Conductors := s.s_Conductors, s_Owners := s.s_Owners, s_Contracts := s.s_Contracts, s_Chargers := s.s_Chargers, s_Bays := s.s_Bays }, fun s => s, fun _ s => s, [.ret, .exit 0], E_sv, I_sv, mu_sv⟩
abbrev run_sv := D_sv.run
abbrev exn_sv := D_sv.exn
abbrev E_svq := D_sv.q
theorem rq_sv (s : L_sv) (hI : I_sv s) : (t_sv s).all (fun _ => True) := by
 refine ⟨fun c1 => ⟨?_, fun _ => trivial, fun c2 => ⟨?_, trivial⟩⟩, fun _ => trivial⟩
 all_goals ((obtain ⟨h0, h1, h2, h3, h4, h5, h6⟩ := hI; first | (simp at c1; omega) | (simp only [Bool.or_eq_false_iff] at c2; exact c2.2)))
noncomputable def gam14 : Specs := specsOf [(55, S_nmso), (56, S_gnam), (57, S_vpar)]
theorem gok14 : ∀ g S, gam14 g = some S → Valid Try.prog noGlobs g S := specs_ok (l := [(55, S_nmso), (56, S_gnam), (57, S_vpar)]) ⟨v_nmso, v_gnam, v_vpar, trivial⟩
theorem ok_sv : D_sv.Ok := ⟨fun s => by kernel_rfl, fun s => by kernel_rfl, fun s => rfl, fun s t r => rfl, fun s => rfl, fun s => by kernel_rfl⟩
theorem pf_sv : D_sv.Pf (Q_sv) := ⟨sv_E, fun _ _ => rfl, sv_da, rq_sv⟩
theorem snd_sv : SoundA Try.prog noGlobs (AN 0) (.loop body_sv) D_sv.lp := LpD.snd ok_sv pf_sv (code_sound (Γ := gam14) (K := noK) (L := noLoops) gok14 noK_sound body_sv (fun b hb => by rw [show loopsIn body_sv = [] by kernel_rfl] at hb; cases hb)) (fun s => by kernel_rfl)
theorem sv_fin (s : L_sv) (hE : E_sv s) : ∃ s', I_sv s' ∧ Q_sv (exn_sv s) s' (run_sv s) := LpD.fin ok_sv pf_sv s hE
def S0_sval : List LV → T LV
 | [.agg [.xl (.pair .str (.pair (.int .i64) (.pair (.int .i64) (.pair (.int .i64) (.pair (.pair (.int .i64) (.int .i64)) (.pair (.int .i64) (.pair (.int .i64) (.pair (.int .i64) (.pair (.int .i64) (.int .i64)))))))))) cs, .xl (.str) os, .xl (.pair .str (.pair (.int .i64) (.pair (.int .i64) (.int .i64)))) ks, .xl (.pair .str (.pair (.int .i64) (.pair (.int .i64) (.pair (.int .i64) (.pair (.int .i64) (.pair (.int .i64) (.pair (.int .i64) (.int .i64)))))))) gs, .xl (.pair .str (.int .i64)) bs]] => .ok (.v (.bool (siteV cs os ks gs bs)))
 | _ => .no
noncomputable def S_sval : List LV → T LV := upS Try.prog Try.f40.params.toList S0_sval
theorem nf_sval (cs : List (ByteArray × (Int × (Int × (Int × ((Int × Int) × (Int × (Int × (Int × (Int × Int)))))))))) (os : List ByteArray) (ks : List (ByteArray × (Int × (Int × Int)))) (gs : List (ByteArray × (Int × (Int × (Int × (Int × (Int × (Int × Int)))))))) (bs : List (ByteArray × Int)) : funu Try.prog noGlobs (gam14) noK (fun i => if i = 5 then D_sv.lp else noLoops i) Try.f40 [.agg [.xl tCd cs, .xl .str os, .xl tKo ks, .xl tCh gs, .xl tBa bs]] = .br ((decide ((List.length cs : Int) < 1)) || ((decide ((List.length cs : Int) > 16)) || ((decide ((List.length os : Int) > 8)) || ((decide ((List.length ks : Int) > 32)) || ((decide ((List.length gs : Int) > 16)) || (decide ((List.length bs : Int) > 24))))))) (.ok (.v (.bool false))) (.req ((List.length cs : Int) ≤ 1000 ∧ (List.length os : Int) ≤ 1000 ∧ (List.length ks : Int) ≤ 1000 ∧ (List.length gs : Int) ≤ 1000 ∧ (List.length bs : Int) ≤ 1000) (.req (E_svq (⟨false, (nmsOf cs os ks gs bs), (List.length (nmsOf cs os ks gs bs) : Int), (0 : Int), cs, os, ks, gs, bs, ([] : List ByteArray)⟩ : L_sv)) (.br (isEx (exn_sv (⟨false, (nmsOf cs os ks gs bs), (List.length (nmsOf cs os ks gs bs) : Int), (0 : Int), cs, os, ks, gs, bs, ([] : List ByteArray)⟩ : L_sv)) (.ret)) (.ok (.v (.bool (run_sv (⟨false, (nmsOf cs os ks gs bs), (List.length (nmsOf cs os ks gs bs) : Int), (0 : Int), cs, os, ks, gs, bs, ([] : List ByteArray)⟩ : L_sv)).r))) (.req ((List.length cs : Int) ≤ 1000 ∧ (List.length os : Int) ≤ 1000 ∧ (List.length ks : Int) ≤ 1000 ∧ (List.length gs : Int) ≤ 1000 ∧ (List.length bs : Int) ≤ 1000) (.ok (.v (.bool (vpB cs os ks gs bs)))))))) := by kernel_rfl
theorem v_sval : Valid Try.prog noGlobs 40 S_sval := valid_ofu Try.func40 rfl gok14 noK_sound (L := (fun i => if i = 5 then D_sv.lp else noLoops i)) (fun b hb => by
 rw [show loopsIn _ = [body_sv] by kernel_rfl] at hb
 simp only [List.mem_cons, List.not_mem_nil, or_false] at hb
 subst hb
 exact snd_sv) (fun args lv h => by
 unfold S0_sval at h
 split at h
 ·simp only [canL, canX]
  rw [nf_sval]
  rename_i cs os ks gs bs
  obtain rfl := h
  refine ⟨fun c => congrArg (fun z => LV.v (.bool z)) ?_, fun c => ?_⟩
  ·rw [eq_comm, Bool.eq_false_iff]
   intro hx
   unfold siteV at hx
   rw [Bool.and_eq_true, decide_eq_true_eq] at hx
   simp only [Bool.or_eq_true, decide_eq_true_eq] at c
   omega
  have hd : 1 ≤ cs.length ∧ cs.length ≤ 16 ∧ os.length ≤ 8 ∧ ks.length ≤ 32 ∧ gs.length ≤ 16 ∧ bs.length ≤ 24 := by
   simp only [Bool.or_eq_false_iff, decide_eq_false_iff_not] at c
   omega
  have hs : siteV cs os ks gs bs = (((nmsOf cs os ks gs bs).all nameB && once (nmsOf cs os ks gs bs)) && vpB cs os ks gs bs) := by
   unfold siteV
   rw [decide_eq_true hd, Bool.true_and, Bool.and_assoc]
  have hl : ((nmsOf cs os ks gs bs).length : Int) ≤ 1000 := by
   unfold nmsOf
   simp only [List.length_append, List.length_map]
   omega
  rw [hs]
  have hr : (List.length cs : Int) ≤ 1000 ∧ (List.length os : Int) ≤ 1000 ∧ (List.length ks : Int) ≤ 1000 ∧ (List.length gs : Int) ≤ 1000 ∧ (List.length bs : Int) ≤ 1000 := by omega
  refine ⟨hr, ?_⟩
  generalize nmsOf cs os ks gs bs = l at *
  refine andI ⟨⟨rfl, rfl, rfl, hl, trivial⟩, rfl, rfl⟩ (fun hE => ?_)
  obtain ⟨s', _, hq⟩ := sv_fin _ hE.1
  rcases hq with ⟨q1, q2⟩ | ⟨q1, q2, j, q3, q4⟩
  ·rw [q1]
   have hk := (keys_iff (d := emp) (p := nameB) (k := id)).1 q2
   rw [List.map_id] at hk
   refine ⟨fun h => (by cases h), fun _ => ⟨hr, ?_⟩⟩
   rw [hk, Bool.true_and]
   rfl
  ·rw [q1, q2]
   refine ⟨fun _ => congrArg (fun z => LV.v (.bool z)) ?_, fun h => by cases h⟩
   have hn : (l.all nameB && once l) = false := by
    rw [Bool.eq_false_iff]; intro hx
    have := (keys_iff (d := emp) (p := nameB) (k := id)).2 (by rw [List.map_id]; exact hx) j q3
    exact Bool.noConfusion (this.symm.trans q4)
   rw [hn]
   rfl
 ·cases h)
end Go.Proofs.Ytihbikkkmoaljaa
