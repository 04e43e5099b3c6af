/- Levels of an order: what is computed, by the executor. -/
import Derived.Test.YtihbikkkmoaljaaDt
namespace Go.Proofs.Ytihbikkkmoaljaa
open Go.Sx
structure L_shi where
 most : List Int
 order : List Int
 n : Int
 level : Int
 some : Bool
 l : List Int
 m : Int
 k : Int
 s_Conductors : List (ByteArray × (Int × (Int × (Int × ((Int × Int) × (Int × (Int × (Int × (Int × Int)))))))))
 s_Owners : List ByteArray
 s_Contracts : List (ByteArray × (Int × (Int × Int)))
 s_Chargers : List (ByteArray × (Int × (Int × (Int × (Int × (Int × (Int × Int)))))))
 s_Bays : List (ByteArray × Int)
 tcs : List (ByteArray × (Int × (Int × (Int × ((Int × Int) × (Int × (Int × (Int × (Int × Int)))))))))
 tos : List ByteArray
 tks : List (ByteArray × (Int × (Int × Int)))
 tgs : List (ByteArray × (Int × (Int × (Int × (Int × (Int × (Int × Int)))))))
 tbs : List (ByteArray × Int)
 trows : List (Int × (List Int))
 of0 : List Int
 of1 : List Int
 of2 : List Int
 of3 : List Int
 of4 : List Int
 of5 : List Int
 of6 : List Int
 of7 : List Int
 of8 : List Int
 of9 : List Int
 of10 : List Int
 of11 : List Int
 of12 : List Int
 of13 : List Int
 of14 : List Int
 of15 : List Int
 talive : List Int
 sums : List Int
 levels : List Int
def A_shi (s : L_shi) : List LV := [.xl (.int .i64) s.most, .xl (.int .i64) s.order, .own 0 0, .v (.int .i64 s.n), .own 1 0, .v (.int .i64 s.level), .v (.bool s.some), .xl (.int .i64) s.l, .v (.int .i64 s.m), .v (.int .i64 s.k)]
def B_shi (s : L_shi) : List Blk := [⟨[.xl tCd s.s_Conductors, .xl .str s.s_Owners, .xl tKo s.s_Contracts, .xl tCh s.s_Chargers, .xl tBa s.s_Bays], 30, .cl, false⟩, ⟨[.xl tCd s.tcs, .xl .str s.tos, .xl tKo s.tks, .xl tCh s.tgs, .xl tBa s.tbs, .xl tRw s.trows, .xl (.int .i64) s.of0, .xl (.int .i64) s.of1, .xl (.int .i64) s.of2, .xl (.int .i64) s.of3, .xl (.int .i64) s.of4, .xl (.int .i64) s.of5, .xl (.int .i64) s.of6, .xl (.int .i64) s.of7, .xl (.int .i64) s.of8, .xl (.int .i64) s.of9, .xl (.int .i64) s.of10, .xl (.int .i64) s.of11, .xl (.int .i64) s.of12, .xl (.int .i64) s.of13, .xl (.int .i64) s.of14, .xl (.int .i64) s.of15, .os 2 1 0 (List.length s.sums), .xl (.int .i64) s.talive, .os 3 1 0 (List.length s.levels)], 66, .cl, false⟩, ⟨[], 3, .vec (.int .i64) s.sums, false⟩, ⟨[], 3, .vec (.int .i64) s.levels, false⟩]
noncomputable def body_shi : Code := ((loopsIn (((loopsIn (Try.f14.body.getD .skip))[0]?).getD .skip))[0]?).getD .skip
def st1_evr (s : L_shi) : L_evr := (⟨false, (([s.of0, s.of1, s.of2, s.of3, s.of4, s.of5, s.of6, s.of7, s.of8, s.of9, s.of10, s.of11, s.of12, s.of13, s.of14, s.of15] : List (List Int)).getD (gi s.l s.k).toNat []), (List.length (([s.of0, s.of1, s.of2, s.of3, s.of4, s.of5, s.of6, s.of7, s.of8, s.of9, s.of10, s.of11, s.of12, s.of13, s.of14, s.of15] : List (List Int)).getD (gi s.l s.k).toNat []) : Int), (0 : Int), s.s_Conductors, s.s_Owners, s.s_Contracts, s.s_Chargers, s.s_Bays, s.tcs, s.tos, s.tks, s.tgs, s.tbs, s.trows, s.of0, s.of1, s.of2, s.of3, s.of4, s.of5, s.of6, s.of7, s.of8, s.of9, s.of10, s.of11, s.of12, s.of13, s.of14, s.of15, s.talive, s.sums, s.levels, (gCh s.tgs (gi s.l s.k)).1, (gCh s.tgs (gi s.l s.k)).2.1, (gCh s.tgs (gi s.l s.k)).2.2.1, (gCh s.tgs (gi s.l s.k)).2.2.2.1, (gCh s.tgs (gi s.l s.k)).2.2.2.2.1, (gCh s.tgs (gi s.l s.k)).2.2.2.2.2.1, (gCh s.tgs (gi s.l s.k)).2.2.2.2.2.2.1, (gCh s.tgs (gi s.l s.k)).2.2.2.2.2.2.2, (IntKind.i64.wrap ((if (gi s.talive (gi s.l s.k)) < (amL (gCh s.tgs (gi s.l s.k)).2.2.2.1 (gCh s.tgs (gi s.l s.k)).2.2.2.2.2.1 (IntKind.i64.wrap ((s.levels.getD (gi s.l s.k).toNat (Ty.dflt (.int .i64))) + 1))) then amL (gCh s.tgs (gi s.l s.k)).2.2.2.1 (gCh s.tgs (gi s.l s.k)).2.2.2.2.2.1 (IntKind.i64.wrap ((s.levels.getD (gi s.l s.k).toNat (Ty.dflt (.int .i64))) + 1)) else (gi s.talive (gi s.l s.k))) - (if (gi s.talive (gi s.l s.k)) < (amL (gCh s.tgs (gi s.l s.k)).2.2.2.1 (gCh s.tgs (gi s.l s.k)).2.2.2.2.2.1 (IntKind.i64.wrap ((IntKind.i64.wrap ((s.levels.getD (gi s.l s.k).toNat (Ty.dflt (.int .i64))) + 1)) - 1))) then amL (gCh s.tgs (gi s.l s.k)).2.2.2.1 (gCh s.tgs (gi s.l s.k)).2.2.2.2.2.1 (IntKind.i64.wrap ((IntKind.i64.wrap ((s.levels.getD (gi s.l s.k).toNat (Ty.dflt (.int .i64))) + 1)) - 1)) else (gi s.talive (gi s.l s.k)))))⟩ : L_evr)
def st2_ru (s : L_shi) : L_ru := (⟨(gi s.l s.k), (IntKind.i64.wrap ((s.levels.getD (gi s.l s.k).toNat (Ty.dflt (.int .i64))) + 1)), (([s.of0, s.of1, s.of2, s.of3, s.of4, s.of5, s.of6, s.of7, s.of8, s.of9, s.of10, s.of11, s.of12, s.of13, s.of14, s.of15] : List (List Int)).getD (gi s.l s.k).toNat []), (List.length (([s.of0, s.of1, s.of2, s.of3, s.of4, s.of5, s.of6, s.of7, s.of8, s.of9, s.of10, s.of11, s.of12, s.of13, s.of14, s.of15] : List (List Int)).getD (gi s.l s.k).toNat []) : Int), (0 : Int), s.s_Conductors, s.s_Owners, s.s_Contracts, s.s_Chargers, s.s_Bays, s.tcs, s.tos, s.tks, s.tgs, s.tbs, s.trows, s.of0, s.of1, s.of2, s.of3, s.of4, s.of5, s.of6, s.of7, s.of8, s.of9, s.of10, s.of11, s.of12, s.of13, s.of14, s.of15, s.talive, s.sums, s.levels, (IntKind.i64.wrap ((if (gi s.talive (gi s.l s.k)) < (amL (gCh s.tgs (gi s.l s.k)).2.2.2.1 (gCh s.tgs (gi s.l s.k)).2.2.2.2.2.1 (IntKind.i64.wrap ((s.levels.getD (gi s.l s.k).toNat (Ty.dflt (.int .i64))) + 1))) then amL (gCh s.tgs (gi s.l s.k)).2.2.2.1 (gCh s.tgs (gi s.l s.k)).2.2.2.2.2.1 (IntKind.i64.wrap ((s.levels.getD (gi s.l s.k).toNat (Ty.dflt (.int .i64))) + 1)) else (gi s.talive (gi s.l s.k))) - (if (gi s.talive (gi s.l s.k)) < (amL (gCh s.tgs (gi s.l s.k)).2.2.2.1 (gCh s.tgs (gi s.l s.k)).2.2.2.2.2.1 (IntKind.i64.wrap ((IntKind.i64.wrap ((s.levels.getD (gi s.l s.k).toNat (Ty.dflt (.int .i64))) + 1)) - 1))) then amL (gCh s.tgs (gi s.l s.k)).2.2.2.1 (gCh s.tgs (gi s.l s.k)).2.2.2.2.2.1 (IntKind.i64.wrap ((IntKind.i64.wrap ((s.levels.getD (gi s.l s.k).toNat (Ty.dflt (.int .i64))) + 1)) - 1)) else (gi s.talive (gi s.l s.k)))))⟩ : L_ru)
def t_shi (s : L_shi) : T (Rd L_shi) :=
 .br (decide (s.k < s.m)) (.req (0 ≤ s.k ∧ s.k < (List.length s.l : Int)) (.req (0 ≤ (gi s.l s.k) ∧ (gi s.l s.k) < ((List.length s.levels : Nat) : Int)) (.req ((gi s.l s.k).toNat < List.length s.levels) (.br ((s.levels.getD (gi s.l s.k).toNat (Ty.dflt (.int .i64))) != (IntKind.i64.wrap (s.level - 1))) (.rl s.sums (.rl s.levels (.ok (.next { s with k := (IntKind.i64.wrap (s.k + 1)) })))) (.req (0 ≤ (gi s.l s.k) ∧ (gi s.l s.k) < (List.length s.s_Chargers : Int)) (.req (0 ≤ (gi s.l s.k) ∧ (gi s.l s.k) < (List.length s.most : Int)) (.req ((gi s.most (gi s.l s.k)) ≤ 9223372036854775807) (.br (decide ((lev (gCh s.s_Chargers (gi s.l s.k)).2.2.2.1 (gCh s.s_Chargers (gi s.l s.k)).2.2.2.2.1 (gCh s.s_Chargers (gi s.l s.k)).2.2.2.2.2.1 (gi s.most (gi s.l s.k))) < s.level)) (.rl s.sums (.rl s.levels (.ok (.next { s with k := (IntKind.i64.wrap (s.k + 1)) })))) (.req (0 ≤ (gi s.l s.k) ∧ (gi s.l s.k) < (List.length s.tgs : Int)) (.req (0 ≤ (gi s.l s.k) ∧ (gi s.l s.k) < ((List.length s.levels : Nat) : Int)) (.req ((gi s.l s.k).toNat < List.length s.levels) (.req (0 ≤ (gi s.l s.k) ∧ (gi s.l s.k) < (List.length s.talive : Int)) (.req ((1 ≤ (gCh s.tgs (gi s.l s.k)).2.2.2.1 ∧ (gCh s.tgs (gi s.l s.k)).2.2.2.1 ≤ 80 ∧ 1 ≤ (gCh s.tgs (gi s.l s.k)).2.2.2.2.2.1 ∧ (gCh s.tgs (gi s.l s.k)).2.2.2.2.2.1 ≤ 80) ∧ 0 ≤ (IntKind.i64.wrap ((s.levels.getD (gi s.l s.k).toNat (Ty.dflt (.int .i64))) + 1)) ∧ (IntKind.i64.wrap ((s.levels.getD (gi s.l s.k).toNat (Ty.dflt (.int .i64))) + 1)) ≤ 1000) (.req (0 ≤ (gi s.l s.k) ∧ (gi s.l s.k) < (List.length s.talive : Int)) (.req ((1 ≤ (gCh s.tgs (gi s.l s.k)).2.2.2.1 ∧ (gCh s.tgs (gi s.l s.k)).2.2.2.1 ≤ 80 ∧ 1 ≤ (gCh s.tgs (gi s.l s.k)).2.2.2.2.2.1 ∧ (gCh s.tgs (gi s.l s.k)).2.2.2.2.2.1 ≤ 80) ∧ 0 ≤ (IntKind.i64.wrap ((IntKind.i64.wrap ((s.levels.getD (gi s.l s.k).toNat (Ty.dflt (.int .i64))) + 1)) - 1)) ∧ (IntKind.i64.wrap ((IntKind.i64.wrap ((s.levels.getD (gi s.l s.k).toNat (Ty.dflt (.int .i64))) + 1)) - 1)) ≤ 1000) (.req (0 ≤ (gi s.l s.k) ∧ (gi s.l s.k) < (16 : Int)) (.rl s.sums (.rl s.levels (.req (E_evrq (st1_evr s)) (.br (isEx (exn_evr (st1_evr s)) (.ret)) (.br (!(run_evr (st1_evr s)).r) (.br false (.rl s.sums (.rl s.levels (.ok (.next { s with some := true, k := (IntKind.i64.wrap (s.k + 1)) })))) (.rl s.sums (.rl s.levels (.ok (.next { s with k := (IntKind.i64.wrap (s.k + 1)) }))))) (.req (0 ≤ (gi s.l s.k) ∧ (gi s.l s.k) < (16 : Int)) (.rl s.sums (.rl s.levels (.req (E_ruq (st2_ru s)) (.req (0 ≤ (gi s.l s.k) ∧ (gi s.l s.k) < ((List.length s.levels : Nat) : Int)) (.req ((gi s.l s.k).toNat < List.length s.levels) (.br true (.rl (run_ru (st2_ru s)).sums (.req (0 = 0 ∧ (List.length s.levels) = List.length (s.levels.set (gi s.l s.k).toNat (IntKind.i64.wrap ((s.levels.getD (gi s.l s.k).toNat (Ty.dflt (.int .i64))) + 1)))) (.ok (.next { s with some := true, k := (IntKind.i64.wrap (s.k + 1)), sums := (run_ru (st2_ru s)).sums, levels := (s.levels.set (gi s.l s.k).toNat (IntKind.i64.wrap ((s.levels.getD (gi s.l s.k).toNat (Ty.dflt (.int .i64))) + 1))) })))) (.rl (run_ru (st2_ru s)).sums (.req (0 = 0 ∧ (List.length s.levels) = List.length (s.levels.set (gi s.l s.k).toNat (IntKind.i64.wrap ((s.levels.getD (gi s.l s.k).toNat (Ty.dflt (.int .i64))) + 1)))) (.ok (.next { s with k := (IntKind.i64.wrap (s.k + 1)), sums := (run_ru (st2_ru s)).sums, levels := (s.levels.set (gi s.l s.k).toNat (IntKind.i64.wrap ((s.levels.getD (gi s.l s.k).toNat (Ty.dflt (.int .i64))) + 1))) })))))))))))) (.br (!true) (.br false (.rl s.sums (.rl s.levels (.ok (.next { s with some := true, k := (IntKind.i64.wrap (s.k + 1)) })))) (.rl s.sums (.rl s.levels (.ok (.next { s with k := (IntKind.i64.wrap (s.k + 1)) }))))) (.req (0 ≤ (gi s.l s.k) ∧ (gi s.l s.k) < (16 : Int)) (.rl s.sums (.rl s.levels (.req (E_ruq (st2_ru s)) (.req (0 ≤ (gi s.l s.k) ∧ (gi s.l s.k) < ((List.length s.levels : Nat) : Int)) (.req ((gi s.l s.k).toNat < List.length s.levels) (.br true (.rl (run_ru (st2_ru s)).sums (.req (0 = 0 ∧ (List.length s.levels) = List.length (s.levels.set (gi s.l s.k).toNat (IntKind.i64.wrap ((s.levels.getD (gi s.l s.k).toNat (Ty.dflt (.int .i64))) + 1)))) (.ok (.next { s with some := true, k := (IntKind.i64.wrap (s.k + 1)), sums := (run_ru (st2_ru s)).sums, levels := (s.levels.set (gi s.l s.k).toNat (IntKind.i64.wrap ((s.levels.getD (gi s.l s.k).toNat (Ty.dflt (.int .i64))) + 1))) })))) (.rl (run_ru (st2_ru s)).sums (.req (0 = 0 ∧ (List.length s.levels) = List.length (s.levels.set (gi s.l s.k).toNat (IntKind.i64.wrap ((s.levels.getD (gi s.l s.k).toNat (Ty.dflt (.int .i64))) + 1)))) (.ok (.next { s with k := (IntKind.i64.wrap (s.k + 1)), sums := (run_ru (st2_ru s)).sums, levels := (s.levels.set (gi s.l s.k).toNat (IntKind.i64.wrap ((s.levels.getD (gi s.l s.k).toNat (Ty.dflt (.int .i64))) + 1))) })))))))))))))))))))))))))))))))) (.rl s.sums (.rl s.levels (.ok (.stop (.exit 2) s))))
abbrev f_shi (s : L_shi) := (t_shi s).rd s
def O_shi (s : L_shi) : List (List Int) := [s.of0, s.of1, s.of2, s.of3, s.of4, s.of5, s.of6, s.of7, s.of8, s.of9, s.of10, s.of11, s.of12, s.of13, s.of14, s.of15]
def E_shi (s : L_shi) : Prop := s.k = 0 ∧ (s.m = (s.l.length : Int) ∧ s.m ≤ 1000 ∧ 1 ≤ s.level ∧ s.level ≤ 81) ∧ s.tgs = s.s_Chargers ∧ OkT (O_shi s) s.trows s.tgs s.talive s.most s.l ∧ OkS s.trows s.l s.sums s.levels
def I_shi (s : L_shi) : Prop := (0 ≤ s.k ∧ s.k ≤ s.m) ∧ (s.m = (s.l.length : Int) ∧ s.m ≤ 1000 ∧ 1 ≤ s.level ∧ s.level ≤ 81) ∧ s.tgs = s.s_Chargers ∧ OkT (O_shi s) s.trows s.tgs s.talive s.most s.l ∧ OkS s.trows s.l s.sums s.levels
def mu_shi (s : L_shi) : Nat := (s.m - s.k).toNat
def Q_shi (x : Ex) (_ s' : L_shi) : Prop := x = .exit 2 ∧ s'.k = s'.m
theorem shi_E : ∀ s, E_shi s → I_shi s := by
 intro s h
 obtain ⟨h0, h1⟩ := h
 exact ⟨by have := h1.1; omega, h1⟩
theorem shi_x (s : L_shi) (hI : I_shi s) (c1 : s.k < s.m) : gi s.l s.k ∈ s.l ∧ (0 ≤ gi s.l s.k ∧ gi s.l s.k < 16) ∧ gi s.l s.k < (s.tgs.length : Int) ∧ gi s.l s.k < (s.s_Chargers.length : Int) ∧ gi s.l s.k < (s.talive.length : Int) ∧ gi s.l s.k < (s.most.length : Int) ∧ gi s.l s.k < (s.levels.length : Int) ∧ (0 ≤ gi s.most (gi s.l s.k) ∧ gi s.most (gi s.l s.k) ≤ 80) ∧ (0 ≤ gi s.talive (gi s.l s.k) ∧ gi s.talive (gi s.l s.k) ≤ 80) := by
 obtain ⟨⟨h0, h1⟩, ⟨h2, h3, h4, h5⟩, h6, hT, hS⟩ := hI
 have hm : gi s.l s.k ∈ s.l := gi_mem h0 (by omega)
 obtain ⟨o1, o2, o3, o4⟩ := hT.ord _ hm
 exact ⟨hm, o1, o2, by rw [← h6]; exact o2, o3, o4, hS.lvl _ hm, hT.mo _ (gi_mem o1.1 o4), hT.al _ (gi_mem o1.1 o3)⟩
theorem shi_c {s : L_shi} (hI : I_shi s) (c2 : ((s.levels.getD (gi s.l s.k).toNat (Ty.dflt (.int .i64))) != (IntKind.i64.wrap (s.level - 1))) = false) : s.levels.getD (gi s.l s.k).toNat 0 = s.level - 1 := by
 obtain ⟨_, ⟨h2, h3, h4, h5⟩, _⟩ := hI
 have c2 : ((s.levels.getD (gi s.l s.k).toNat 0) != (IntKind.i64.wrap (s.level - 1))) = false := c2
 rw [wrapS (x := s.level - 1) (by omega) (by omega)] at c2
 simpa using c2
theorem shi_w {s : L_shi} (hI : I_shi s) (c2 : s.levels.getD (gi s.l s.k).toNat 0 = s.level - 1) : IntKind.i64.wrap ((s.levels.getD (gi s.l s.k).toNat (Ty.dflt (.int .i64))) + 1) = s.level ∧ IntKind.i64.wrap ((IntKind.i64.wrap ((s.levels.getD (gi s.l s.k).toNat (Ty.dflt (.int .i64))) + 1)) - 1) = s.level - 1 := by
 obtain ⟨_, ⟨h2, h3, h4, h5⟩, _⟩ := hI
 have e : IntKind.i64.wrap ((s.levels.getD (gi s.l s.k).toNat (Ty.dflt (.int .i64))) + 1) = s.level := by
  have : (s.levels.getD (gi s.l s.k).toNat (Ty.dflt (.int .i64))) = s.level - 1 := c2
  rw [this, wrapS (x := s.level - 1 + 1) (by omega) (by omega)]
  omega
 refine ⟨e, ?_⟩
 rw [e, wrapS (by omega) (by omega)]
theorem shi_more {s : L_shi} (hI : I_shi s) (c1 : s.k < s.m) (c2 : s.levels.getD (gi s.l s.k).toNat 0 = s.level - 1) : (st1_evr s).more = mor s.tgs s.talive (gi s.l s.k) s.level ∧ (st2_ru s).more = mor s.tgs s.talive (gi s.l s.k) s.level ∧ 0 ≤ mor s.tgs s.talive (gi s.l s.k) s.level ∧ mor s.tgs s.talive (gi s.l s.k) s.level ≤ 10000 := by
 have hx := shi_x s hI c1
 obtain ⟨w1, w2⟩ := shi_w hI c2
 obtain ⟨_, ⟨h2, h3, h4, h5⟩, h6, hT, hS⟩ := hI
 have hb := mor_bd (gs := s.tgs) (alive := s.talive) (k := s.level) (hT.has _ hx.1) hx.2.2.2.2.2.2.2.2 h4 h5
 have e : (st1_evr s).more = mor s.tgs s.talive (gi s.l s.k) s.level := by
  unfold st1_evr
  simp only [w2]
  simp only [w1]
  show IntKind.i64.wrap (mor s.tgs s.talive (gi s.l s.k) s.level) = _
  rw [wrapS (by omega) (by omega)]
 exact ⟨e, e, hb⟩
theorem shi_o {s : L_shi} (hI : I_shi s) (c1 : s.k < s.m) : ((O_shi s).getD (gi s.l s.k).toNat []).Nodup ∧ (((O_shi s).getD (gi s.l s.k).toNat []).length : Int) ≤ 1000 ∧ ∀ r ∈ (O_shi s).getD (gi s.l s.k).toNat [], 0 ≤ r ∧ r < (s.trows.length : Int) := by
 have hx := shi_x s hI c1
 obtain ⟨_, _, _, hT, _⟩ := hI
 refine hT.row _ ?_
 have hl := hT.ol
 rw [List.getD_eq_getElem?_getD, List.getElem?_eq_getElem (by omega), Option.getD_some]
 exact List.getElem_mem _
theorem shi_Ev {s : L_shi} (hI : I_shi s) (c1 : s.k < s.m) (c2 : s.levels.getD (gi s.l s.k).toNat 0 = s.level - 1) : E_evr (st1_evr s) := by
 obtain ⟨m1, m2, m3⟩ := shi_more hI c1 c2
 obtain ⟨o1, o2, o3⟩ := shi_o hI c1
 obtain ⟨_, _, _, hT, hS⟩ := hI
 exact ⟨rfl, Int.natCast_nonneg _, o2, rfl, o3, hS.len, hS.bd, by rw [m1]; exact m3⟩
theorem shi_Ru {s : L_shi} (hI : I_shi s) (c1 : s.k < s.m) (c2 : s.levels.getD (gi s.l s.k).toNat 0 = s.level - 1) : E_ru (st2_ru s) := by
 obtain ⟨m1, m2, m3⟩ := shi_more hI c1 c2
 obtain ⟨o1, o2, o3⟩ := shi_o hI c1
 obtain ⟨_, _, _, hT, hS⟩ := hI
 refine ⟨rfl, hS.bd, rfl, o2, fun r hr => ?_, by rw [m2]; exact m3⟩
 have := o3 r hr
 have hl := hS.len
 show 0 ≤ r ∧ r < (s.sums.length : Int)
 omega
theorem shi_ok (s s' : L_shi) (hI : I_shi s) (c1 : s.k < s.m) (ht : (s'.sums, s'.levels, s'.some) = rsS (O_shi s) s.trows s.tgs s.talive s.most s.level (s.sums, s.levels, s.some) (gi s.l s.k)) (hk : s'.k = IntKind.i64.wrap (s.k + 1))
  (h_m : s'.m = s.m) (h_l : s'.l = s.l) (h_v : s'.level = s.level) (h_g : s'.tgs = s.tgs) (h_c : s'.s_Chargers = s.s_Chargers) (h_r : s'.trows = s.trows) (h_a : s'.talive = s.talive) (h_w : s'.most = s.most) (h_O : O_shi s' = O_shi s) :
  (I_shi s' ∧ mu_shi s' < mu_shi s) ∧ (fun s : L_shi => swp (O_shi s) s.trows s.tgs s.talive s.most s.level (s.sums, s.levels, s.some) (s.l.drop s.k.toNat)) s' = (fun s : L_shi => swp (O_shi s) s.trows s.tgs s.talive s.most s.level (s.sums, s.levels, s.some) (s.l.drop s.k.toNat)) s := by
 have hx := shi_x s hI c1
 obtain ⟨⟨h0, h1⟩, ⟨h2, h3, h4, h5⟩, h6, hT, hS⟩ := hI
 rw [wrapS (x := s.k + 1) (by omega) (by omega)] at hk
 have e1 : s'.sums = (rsS (O_shi s) s.trows s.tgs s.talive s.most s.level (s.sums, s.levels, s.some) (gi s.l s.k)).1 := congrArg (·.1) ht
 have e2 : s'.levels = (rsS (O_shi s) s.trows s.tgs s.talive s.most s.level (s.sums, s.levels, s.some) (gi s.l s.k)).2.1 := congrArg (·.2.1) ht
 refine ⟨⟨⟨⟨by omega, by omega⟩, ⟨by rw [h_m, h_l]; exact h2, by omega, by omega, by omega⟩, by rw [h_g, h_c]; exact h6, by rw [h_O, h_r, h_g, h_a, h_w, h_l]; exact hT, ?_⟩, by simp only [mu_shi]; omega⟩, ?_⟩
 ·rw [h_r, h_l, e1, e2]
  exact rsS_ok hT hS hx.1 h4 h5
 ·simp only
  rw [h_O, h_r, h_g, h_a, h_w, h_v, h_l, ht, hk, (gi_step h0 (show s.k < s.l.length by omega)).1]
  rfl
theorem shi_ok1 (s s' : L_shi) (hI : I_shi s) (c1 : s.k < s.m) (ht : (s'.sums, s'.levels, s'.some) = rsS (O_shi s) s.trows s.tgs s.talive s.most s.level (s.sums, s.levels, s.some) (gi s.l s.k)) (hk : s'.k = IntKind.i64.wrap (s.k + 1))
  (h_m : s'.m = s.m) (h_l : s'.l = s.l) (h_v : s'.level = s.level) (h_g : s'.tgs = s.tgs) (h_c : s'.s_Chargers = s.s_Chargers) (h_r : s'.trows = s.trows) (h_a : s'.talive = s.talive) (h_w : s'.most = s.most) (h_O : O_shi s' = O_shi s) : allR (fun s' => I_shi s' ∧ mu_shi s' < mu_shi s) (fun x s' => Q_shi x s s') (.next s') := (shi_ok s s' hI c1 ht hk h_m h_l h_v h_g h_c h_r h_a h_w h_O).1
theorem shi_ok2 (s s' : L_shi) (hI : I_shi s) (c1 : s.k < s.m) (ht : (s'.sums, s'.levels, s'.some) = rsS (O_shi s) s.trows s.tgs s.talive s.most s.level (s.sums, s.levels, s.some) (gi s.l s.k)) (hk : s'.k = IntKind.i64.wrap (s.k + 1))
  (h_m : s'.m = s.m) (h_l : s'.l = s.l) (h_v : s'.level = s.level) (h_g : s'.tgs = s.tgs) (h_c : s'.s_Chargers = s.s_Chargers) (h_r : s'.trows = s.trows) (h_a : s'.talive = s.talive) (h_w : s'.most = s.most) (h_O : O_shi s' = O_shi s) : allR (fun s' => (fun s : L_shi => swp (O_shi s) s.trows s.tgs s.talive s.most s.level (s.sums, s.levels, s.some) (s.l.drop s.k.toNat)) s' = (fun s : L_shi => swp (O_shi s) s.trows s.tgs s.talive s.most s.level (s.sums, s.levels, s.some) (s.l.drop s.k.toNat)) s) (fun _ s' => (fun s : L_shi => swp (O_shi s) s.trows s.tgs s.talive s.most s.level (s.sums, s.levels, s.some) (s.l.drop s.k.toNat)) s' = (fun s : L_shi => swp (O_shi s) s.trows s.tgs s.talive s.most s.level (s.sums, s.levels, s.some) (s.l.drop s.k.toNat)) s) (.next s') := (shi_ok s s' hI c1 ht hk h_m h_l h_v h_g h_c h_r h_a h_w h_O).2
theorem shi_da (s : L_shi) (hI : I_shi s) : allR (fun s' => I_shi s' ∧ mu_shi s' < mu_shi s) (fun x s' => Q_shi x s s') (f_shi s) := by
 unfold f_shi t_shi
 dsimp only [T.rd, T.rl]
 refine allR_ite (fun c1 => ?_) (fun c1 => ?_)
 ·refine allR_ite (fun c2 => ?_) (fun c2 => ?_)
  ·have c1 : s.k < s.m := by simpa using c1
   have hn : ¬ (s.levels.getD (gi s.l s.k).toNat 0 = s.level - 1 ∧ s.level ≤ lvC s.tgs (gi s.l s.k) (gi s.most (gi s.l s.k))) := fun h => by
    obtain ⟨_, ⟨h2, h3, h4, h5⟩, _⟩ := hI
    have c2 : ((s.levels.getD (gi s.l s.k).toNat 0) != (IntKind.i64.wrap (s.level - 1))) = true := c2
    rw [wrapS (x := s.level - 1) (by omega) (by omega)] at c2
    have c2 : ¬ s.levels.getD (gi s.l s.k).toNat 0 = s.level - 1 := by simpa using c2
    exact c2 h.1
   exact shi_ok1 s _ hI (by simpa using c1) (by unfold rsS; rw [if_neg hn]) rfl rfl rfl rfl rfl rfl rfl rfl rfl rfl
  ·refine allR_ite (fun c3 => ?_) (fun c3 => ?_)
   ·have c1 : s.k < s.m := by simpa using c1
    have hn : ¬ (s.levels.getD (gi s.l s.k).toNat 0 = s.level - 1 ∧ s.level ≤ lvC s.tgs (gi s.l s.k) (gi s.most (gi s.l s.k))) := fun h => by
     obtain ⟨_, _, h6, _⟩ := hI
     simp only [decide_eq_true_eq] at c3
     rw [← h6] at c3
     have := h.2
     unfold lvC at this
     omega
    exact shi_ok1 s _ hI (by simpa using c1) (by unfold rsS; rw [if_neg hn]) rfl rfl rfl rfl rfl rfl rfl rfl rfl rfl
   ·refine allR_ite (fun c4 => ?_) (fun c4 => ?_)
    ·refine allR_ite (fun c5 => ?_) (fun c5 => ?_)
     ·refine allR_ite (fun c6 => ?_) (fun c6 => ?_)
      ·cases c6
      ·have c1 : s.k < s.m := by simpa using c1
       have c2 := shi_c hI c2
       have hp : s.levels.getD (gi s.l s.k).toNat 0 = s.level - 1 ∧ s.level ≤ lvC s.tgs (gi s.l s.k) (gi s.most (gi s.l s.k)) := by
        refine ⟨c2, ?_⟩
        have h6 := hI.2.2.1
        simp only [decide_eq_false_iff_not] at c3
        rw [← h6] at c3
        unfold lvC
        omega
       have hE := shi_Ev hI c1 c2
       obtain ⟨m1, m2, _⟩ := shi_more hI c1 c2
       rcases evr_res _ hE with ⟨q1, q2⟩ | ⟨q1, q2, q3⟩
       ·rw [q1] at c4
        cases c4
       ·rw [m1] at q3
        have q3 : ((O_shi s).getD (gi s.l s.k).toNat []).all (fitB s.trows s.sums (mor s.tgs s.talive (gi s.l s.k) s.level)) = false := q3
        exact shi_ok1 s _ hI (by simpa using c1) (by unfold rsS; rw [if_pos hp, if_neg (by rw [q3]; simp)]) rfl rfl rfl rfl rfl rfl rfl rfl rfl rfl
     ·refine allR_ite (fun c6 => ?_) (fun c6 => ?_)
      ·have c1 : s.k < s.m := by simpa using c1
       have c2 := shi_c hI c2
       have hp : s.levels.getD (gi s.l s.k).toNat 0 = s.level - 1 ∧ s.level ≤ lvC s.tgs (gi s.l s.k) (gi s.most (gi s.l s.k)) := by
        refine ⟨c2, ?_⟩
        have h6 := hI.2.2.1
        simp only [decide_eq_false_iff_not] at c3
        rw [← h6] at c3
        unfold lvC
        omega
       have hE := shi_Ev hI c1 c2
       obtain ⟨m1, m2, _⟩ := shi_more hI c1 c2
       rcases evr_res _ hE with ⟨q1, q2⟩ | ⟨q1, q2, q3⟩
       ·rw [q1] at c4
        cases c4
       ·rw [q2] at c5
        cases c5
      ·have c1 : s.k < s.m := by simpa using c1
       have c2 := shi_c hI c2
       have hp : s.levels.getD (gi s.l s.k).toNat 0 = s.level - 1 ∧ s.level ≤ lvC s.tgs (gi s.l s.k) (gi s.most (gi s.l s.k)) := by
        refine ⟨c2, ?_⟩
        have h6 := hI.2.2.1
        simp only [decide_eq_false_iff_not] at c3
        rw [← h6] at c3
        unfold lvC
        omega
       have hE := shi_Ev hI c1 c2
       obtain ⟨m1, m2, _⟩ := shi_more hI c1 c2
       rcases evr_res _ hE with ⟨q1, q2⟩ | ⟨q1, q2, q3⟩
       ·rw [q1] at c4
        cases c4
       ·rw [q2] at c5
        cases c5
    ·refine allR_ite (fun c5 => ?_) (fun c5 => ?_)
     ·refine allR_ite (fun c6 => ?_) (fun c6 => ?_)
      ·cases c5
      ·cases c5
     ·refine allR_ite (fun c6 => ?_) (fun c6 => ?_)
      ·have c1 : s.k < s.m := by simpa using c1
       have c2 := shi_c hI c2
       have hp : s.levels.getD (gi s.l s.k).toNat 0 = s.level - 1 ∧ s.level ≤ lvC s.tgs (gi s.l s.k) (gi s.most (gi s.l s.k)) := by
        refine ⟨c2, ?_⟩
        have h6 := hI.2.2.1
        simp only [decide_eq_false_iff_not] at c3
        rw [← h6] at c3
        unfold lvC
        omega
       have hE := shi_Ev hI c1 c2
       obtain ⟨m1, m2, _⟩ := shi_more hI c1 c2
       have hR := shi_Ru hI c1 c2
       rcases evr_res _ hE with ⟨q1, q2⟩ | ⟨q1, q2, q3⟩
       ·rw [m1] at q2
        have q2 : ((O_shi s).getD (gi s.l s.k).toNat []).all (fitB s.trows s.sums (mor s.tgs s.talive (gi s.l s.k) s.level)) = true := q2
        have r1 := ru_res _ hR
        rw [m2] at r1
        have r1 : (run_ru (st2_ru s)).sums = addS s.sums (mor s.tgs s.talive (gi s.l s.k) s.level) ((O_shi s).getD (gi s.l s.k).toNat []) := r1
        have w1 := (shi_w hI c2).1
        exact shi_ok1 s _ hI (by simpa using c1) (by unfold rsS; rw [if_pos hp, if_pos q2, ← r1, ← w1]) rfl rfl rfl rfl rfl rfl rfl rfl rfl rfl
       ·rw [q1] at c4
        cases c4
      ·cases c6
 ·have c1 : s.m ≤ s.k := by simpa using c1
  have h0 := hI.1
  exact ⟨rfl, by omega⟩
def D_shi : LpD L_shi := ⟨0, 129, [2, 3, 4, 12, 14, 15, 16, 66, 67, 68], [], A_shi, B_shi, fun v b => ⟨gXl (.int .i64) (v.getD 0 .junk), gXl (.int .i64) (v.getD 1 .junk), gI (v.getD 3 .junk), gI (v.getD 5 .junk), gBo (v.getD 6 .junk), gXl (.int .i64) (v.getD 7 .junk), gI (v.getD 8 .junk), gI (v.getD 9 .junk), gXl tCd (gCe (gBk b 0) 0), gXl .str (gCe (gBk b 0) 1), gXl tKo (gCe (gBk b 0) 2), gXl tCh (gCe (gBk b 0) 3), gXl tBa (gCe (gBk b 0) 4), gXl tCd (gCe (gBk b 1) 0), gXl .str (gCe (gBk b 1) 1), gXl tKo (gCe (gBk b 1) 2), gXl tCh (gCe (gBk b 1) 3), gXl tBa (gCe (gBk b 1) 4), gXl tRw (gCe (gBk b 1) 5), gXl (.int .i64) (gCe (gBk b 1) 6), gXl (.int .i64) (gCe (gBk b 1) 7), gXl (.int .i64) (gCe (gBk b 1) 8), gXl (.int .i64) (gCe (gBk b 1) 9), gXl (.int .i64) (gCe (gBk b 1) 10), gXl (.int .i64) (gCe (gBk b 1) 11), gXl (.int .i64) (gCe (gBk b 1) 12), gXl (.int .i64) (gCe (gBk b 1) 13), gXl (.int .i64) (gCe (gBk b 1) 14), gXl (.int .i64) (gCe (gBk b 1) 15), gXl (.int .i64) (gCe (gBk b 1) 16), gXl (.int .i64) (gCe (gBk b 1) 17), gXl (.int .i64) (gCe (gBk b 1) 18), gXl (.int .i64) (gCe (gBk b 1) 19), gXl (.int .i64) (gCe (gBk b 1) 20), gXl (.int .i64) (gCe (gBk b 1) 21), gXl (.int .i64) (gCe (gBk b 1) 23), gVe (.int .i64) (gBk b 2), gVe (.int .i64) (gBk b 3)⟩, t_shi, fun s r => { r with most := s.most, order := s.order, n := s.n, level := s.level, l := s.l, m := s.m, s_Conductors := s.s_Conductors, s_Owners := s.s_Owners, s_Contracts := s.s_Contracts, s_Chargers := s.s_Chargers, s_Bays := s.s_Bays, tcs := s.tcs, tos := s.tos, tks := s.tks, tgs := s.tgs, tbs := s.tbs, trows := s.trows, of0 := s.of0, of1 := s.of1, of2 := s.of2, of3 := s.of3, of4 := s.of4, of5 := s.of5, of6 := s.of6, of7 := s.of7, of8 := s.of8, of9 := s.of9, of10 := s.of10, of11 := s.of11, of12 := s.of12, of13 := s.of13, of14 := s.of14, of15 := s.of15, talive := s.talive }, fun s => s, fun _ s => s, [.exit 2], E_shi, I_shi, mu_shi⟩
abbrev run_shi := D_shi.run
abbrev exn_shi := D_shi.exn
abbrev E_shiq := D_shi.q
set_option maxRecDepth 100000 in
set_option maxHeartbeats 4000000 in
theorem rq_shi (s : L_shi) (hI : I_shi s) : (t_shi s).all (fun _ => True) := by
 refine ⟨fun c1 => ⟨?_, ?_, ?_, fun c2 => ⟨⟨rfl, rfl⟩, ⟨rfl, rfl⟩, trivial⟩, fun c2 => ⟨?_, ?_, ?_, fun c3 => ⟨⟨rfl, rfl⟩, ⟨rfl, rfl⟩, trivial⟩, fun c3 => ⟨?_, ?_, ?_, ?_, ?_, ?_, ?_, ?_, ⟨rfl, rfl⟩, ⟨rfl, rfl⟩, ?_, fun c4 => ⟨fun c5 => ⟨fun c6 => ⟨⟨rfl, rfl⟩, ⟨rfl, rfl⟩, trivial⟩, fun c6 => ⟨⟨rfl, rfl⟩, ⟨rfl, rfl⟩, trivial⟩⟩, fun c5 => ⟨?_, ⟨rfl, rfl⟩, ⟨rfl, rfl⟩, ?_, ?_, ?_, fun c7 => ⟨⟨rfl, rfl⟩, ?_, trivial⟩, fun c7 => ⟨⟨rfl, rfl⟩, ?_, trivial⟩⟩⟩, fun c4 => ⟨fun c8 => ⟨fun c9 => ⟨⟨rfl, rfl⟩, ⟨rfl, rfl⟩, trivial⟩, fun c9 => ⟨⟨rfl, rfl⟩, ⟨rfl, rfl⟩, trivial⟩⟩, fun c8 => ⟨?_, ⟨rfl, rfl⟩, ⟨rfl, rfl⟩, ?_, ?_, ?_, fun c10 => ⟨⟨rfl, rfl⟩, ?_, trivial⟩, fun c10 => ⟨⟨rfl, rfl⟩, ?_, trivial⟩⟩⟩⟩⟩⟩, fun c1 => ⟨⟨rfl, rfl⟩, ⟨rfl, rfl⟩, trivial⟩⟩
 ·(have := hI.1; have := hI.2.1.1; simp only [decide_eq_true_eq] at c1; omega)
 iterate 9 · (have hx := shi_x s hI (by simpa using c1); omega)
 ·(have hx := shi_x s hI (by simpa using c1); obtain ⟨w1, w2⟩ := shi_w hI (shi_c hI c2); have hh := hasL_iff.1 (hI.2.2.2.1.has _ hx.1); have hb := hI.2.1; (first | rw [w2] | rw [w1]); omega)
 ·(have hx := shi_x s hI (by simpa using c1); omega)
 ·(have hx := shi_x s hI (by simpa using c1); obtain ⟨w1, w2⟩ := shi_w hI (shi_c hI c2); have hh := hasL_iff.1 (hI.2.2.2.1.has _ hx.1); have hb := hI.2.1; (first | rw [w2] | rw [w1]); omega)
 ·(have hx := shi_x s hI (by simpa using c1); omega)
 ·exact ⟨shi_Ev hI (by simpa using c1) (shi_c hI c2), rfl, rfl⟩
 ·(have hx := shi_x s hI (by simpa using c1); omega)
 ·exact ⟨shi_Ru hI (by simpa using c1) (shi_c hI c2), rfl, rfl⟩
 iterate 2 · (have hx := shi_x s hI (by simpa using c1); omega)
 iterate 2 · exact ⟨rfl, by simp⟩
 ·(have hx := shi_x s hI (by simpa using c1); omega)
 ·exact ⟨shi_Ru hI (by simpa using c1) (shi_c hI c2), rfl, rfl⟩
 iterate 2 · (have hx := shi_x s hI (by simpa using c1); omega)
 iterate 2 · exact ⟨rfl, by simp⟩
noncomputable def gam38 : Specs := specsOf [(19, S_levl), (23, S_rows), (30, S_amps), (33, S_isor)]
theorem gok38 : ∀ g S, gam38 g = some S → Valid Try.prog noGlobs g S := specs_ok (l := [(19, S_levl), (23, S_rows), (30, S_amps), (33, S_isor)]) ⟨v_levl, v_rows, v_amps, v_isor, trivial⟩
noncomputable def hnd39 : Hand := inl Try.prog noGlobs gam38 (addL 35 4 8 (D_ru.lp) (addL 32 7 2 (D_evr.lp) (addL 34 1 3 (D_nto.lp) (addL 32 1 2 (D_evs.lp) (unrL Try.prog noGlobs (gam38) 20 2))))) 9
theorem hok39 : KSound Try.prog noGlobs hnd39 := inl_sound gok38 (addL_ok Try.func35 rfl (by kernel_rfl) snd_ru (addL_ok Try.func32 rfl (by kernel_rfl) snd_evr (addL_ok Try.func34 rfl (by kernel_rfl) snd_nto (addL_ok Try.func32 rfl (by kernel_rfl) snd_evs (unrL_ok gok38))))) 9
theorem ok_shi : D_shi.Ok := ⟨fun s => by kernel_rfl, fun s => by kernel_rfl, fun s => rfl, fun s t r => rfl, fun s => rfl, fun s => by kernel_rfl⟩
theorem pf_shi : D_shi.Pf (Q_shi) := ⟨shi_E, fun _ _ => rfl, shi_da, rq_shi⟩
set_option maxRecDepth 100000 in
set_option maxHeartbeats 4000000 in
theorem snd_shi : SoundA Try.prog noGlobs (AN 0) (.loop body_shi) D_shi.lp := LpD.snd ok_shi pf_shi (code_sound (Γ := gam38) (K := hnd39) (L := noLoops) gok38 hok39 body_shi (fun b hb => by rw [show loopsIn body_shi = [] by kernel_rfl] at hb; cases hb)) (fun s => by kernel_rfl)
theorem shi_fin (s : L_shi) (hE : E_shi s) : ∃ s', I_shi s' ∧ Q_shi (exn_shi s) s' (run_shi s) := LpD.fin ok_shi pf_shi s hE
theorem shi_keep (s : L_shi) (hE : E_shi s) : (fun s : L_shi => swp (O_shi s) s.trows s.tgs s.talive s.most s.level (s.sums, s.levels, s.some) (s.l.drop s.k.toNat)) (run_shi s) = (fun s : L_shi => swp (O_shi s) s.trows s.tgs s.talive s.most s.level (s.sums, s.levels, s.some) (s.l.drop s.k.toNat)) s := by
 exact LpD.keepV ok_shi pf_shi (fun s : L_shi => swp (O_shi s) s.trows s.tgs s.talive s.most s.level (s.sums, s.levels, s.some) (s.l.drop s.k.toNat)) (fun s hI => by
  show allR _ _ (f_shi s)
  unfold f_shi t_shi
  dsimp only [T.rd, T.rl]
  refine allR_ite (fun c1 => ?_) (fun c1 => ?_)
  ·refine allR_ite (fun c2 => ?_) (fun c2 => ?_)
   ·have c1 : s.k < s.m := by simpa using c1
    have hn : ¬ (s.levels.getD (gi s.l s.k).toNat 0 = s.level - 1 ∧ s.level ≤ lvC s.tgs (gi s.l s.k) (gi s.most (gi s.l s.k))) := fun h => by
     obtain ⟨_, ⟨h2, h3, h4, h5⟩, _⟩ := hI
     have c2 : ((s.levels.getD (gi s.l s.k).toNat 0) != (IntKind.i64.wrap (s.level - 1))) = true := c2
     rw [wrapS (x := s.level - 1) (by omega) (by omega)] at c2
     have c2 : ¬ s.levels.getD (gi s.l s.k).toNat 0 = s.level - 1 := by simpa using c2
     exact c2 h.1
    exact shi_ok2 s _ hI (by simpa using c1) (by unfold rsS; rw [if_neg hn]) rfl rfl rfl rfl rfl rfl rfl rfl rfl rfl
   ·refine allR_ite (fun c3 => ?_) (fun c3 => ?_)
    ·have c1 : s.k < s.m := by simpa using c1
     have hn : ¬ (s.levels.getD (gi s.l s.k).toNat 0 = s.level - 1 ∧ s.level ≤ lvC s.tgs (gi s.l s.k) (gi s.most (gi s.l s.k))) := fun h => by
      obtain ⟨_, _, h6, _⟩ := hI
      simp only [decide_eq_true_eq] at c3
      rw [← h6] at c3
      have := h.2
      unfold lvC at this
      omega
     exact shi_ok2 s _ hI (by simpa using c1) (by unfold rsS; rw [if_neg hn]) rfl rfl rfl rfl rfl rfl rfl rfl rfl rfl
    ·refine allR_ite (fun c4 => ?_) (fun c4 => ?_)
     ·refine allR_ite (fun c5 => ?_) (fun c5 => ?_)
      ·refine allR_ite (fun c6 => ?_) (fun c6 => ?_)
       ·cases c6
       ·have c1 : s.k < s.m := by simpa using c1
        have c2 := shi_c hI c2
        have hp : s.levels.getD (gi s.l s.k).toNat 0 = s.level - 1 ∧ s.level ≤ lvC s.tgs (gi s.l s.k) (gi s.most (gi s.l s.k)) := by
         refine ⟨c2, ?_⟩
         have h6 := hI.2.2.1
         simp only [decide_eq_false_iff_not] at c3
         rw [← h6] at c3
         unfold lvC
         omega
        have hE := shi_Ev hI c1 c2
        obtain ⟨m1, m2, _⟩ := shi_more hI c1 c2
        rcases evr_res _ hE with ⟨q1, q2⟩ | ⟨q1, q2, q3⟩
        ·rw [q1] at c4
         cases c4
        ·rw [m1] at q3
         have q3 : ((O_shi s).getD (gi s.l s.k).toNat []).all (fitB s.trows s.sums (mor s.tgs s.talive (gi s.l s.k) s.level)) = false := q3
         exact shi_ok2 s _ hI (by simpa using c1) (by unfold rsS; rw [if_pos hp, if_neg (by rw [q3]; simp)]) rfl rfl rfl rfl rfl rfl rfl rfl rfl rfl
      ·refine allR_ite (fun c6 => ?_) (fun c6 => ?_)
       ·have c1 : s.k < s.m := by simpa using c1
        have c2 := shi_c hI c2
        have hp : s.levels.getD (gi s.l s.k).toNat 0 = s.level - 1 ∧ s.level ≤ lvC s.tgs (gi s.l s.k) (gi s.most (gi s.l s.k)) := by
         refine ⟨c2, ?_⟩
         have h6 := hI.2.2.1
         simp only [decide_eq_false_iff_not] at c3
         rw [← h6] at c3
         unfold lvC
         omega
        have hE := shi_Ev hI c1 c2
        obtain ⟨m1, m2, _⟩ := shi_more hI c1 c2
        rcases evr_res _ hE with ⟨q1, q2⟩ | ⟨q1, q2, q3⟩
        ·rw [q1] at c4
         cases c4
        ·rw [q2] at c5
         cases c5
       ·have c1 : s.k < s.m := by simpa using c1
        have c2 := shi_c hI c2
        have hp : s.levels.getD (gi s.l s.k).toNat 0 = s.level - 1 ∧ s.level ≤ lvC s.tgs (gi s.l s.k) (gi s.most (gi s.l s.k)) := by
         refine ⟨c2, ?_⟩
         have h6 := hI.2.2.1
         simp only [decide_eq_false_iff_not] at c3
         rw [← h6] at c3
         unfold lvC
         omega
        have hE := shi_Ev hI c1 c2
        obtain ⟨m1, m2, _⟩ := shi_more hI c1 c2
        rcases evr_res _ hE with ⟨q1, q2⟩ | ⟨q1, q2, q3⟩
        ·rw [q1] at c4
         cases c4
        ·rw [q2] at c5
         cases c5
     ·refine allR_ite (fun c5 => ?_) (fun c5 => ?_)
      ·refine allR_ite (fun c6 => ?_) (fun c6 => ?_)
       ·cases c5
       ·cases c5
      ·refine allR_ite (fun c6 => ?_) (fun c6 => ?_)
       ·have c1 : s.k < s.m := by simpa using c1
        have c2 := shi_c hI c2
        have hp : s.levels.getD (gi s.l s.k).toNat 0 = s.level - 1 ∧ s.level ≤ lvC s.tgs (gi s.l s.k) (gi s.most (gi s.l s.k)) := by
         refine ⟨c2, ?_⟩
         have h6 := hI.2.2.1
         simp only [decide_eq_false_iff_not] at c3
         rw [← h6] at c3
         unfold lvC
         omega
        have hE := shi_Ev hI c1 c2
        obtain ⟨m1, m2, _⟩ := shi_more hI c1 c2
        have hR := shi_Ru hI c1 c2
        rcases evr_res _ hE with ⟨q1, q2⟩ | ⟨q1, q2, q3⟩
        ·rw [m1] at q2
         have q2 : ((O_shi s).getD (gi s.l s.k).toNat []).all (fitB s.trows s.sums (mor s.tgs s.talive (gi s.l s.k) s.level)) = true := q2
         have r1 := ru_res _ hR
         rw [m2] at r1
         have r1 : (run_ru (st2_ru s)).sums = addS s.sums (mor s.tgs s.talive (gi s.l s.k) s.level) ((O_shi s).getD (gi s.l s.k).toNat []) := r1
         have w1 := (shi_w hI c2).1
         exact shi_ok2 s _ hI (by simpa using c1) (by unfold rsS; rw [if_pos hp, if_pos q2, ← r1, ← w1]) rfl rfl rfl rfl rfl rfl rfl rfl rfl rfl
        ·rw [q1] at c4
         cases c4
       ·cases c6
  ·rfl) s hE
theorem shi_res (s : L_shi) (hE : E_shi s) : ((run_shi s).sums, (run_shi s).levels, (run_shi s).some) = swp (O_shi s) s.trows s.tgs s.talive s.most s.level (s.sums, s.levels, s.some) s.l := by
 have q3 := shi_keep s hE
 obtain ⟨s', hI, q1, q2⟩ := shi_fin s hE
 obtain ⟨h0, h1, _⟩ := hE
 simp only at q3
 rw [q2, show (run_shi s).m = s.m from rfl, show (run_shi s).l = s.l from rfl, List.drop_eq_nil_of_le (by omega), h0] at q3
 exact q3
end Go.Proofs.Ytihbikkkmoaljaa
