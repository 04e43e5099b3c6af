/- CarNeeds: what it computes. -/
import Derived.Test.YtakkjfldfghfcaaAq
namespace Go.Proofs.Ytakkjfldfghfcaa
open Go.Sx
structure L_ne where
  phases : Int
  allowed : List Int
  r : Bool
  up_ : Bool
  sum : Int
  l : List Int
  n : Int
  i : Int
  c_Kind : Int
  c_Phases : Int
  c_Max : Int
  c_Need : Int
  c_Delay : Int
  s_Pilots : List Int
  s_Ticks : Int
  s_Got : Int
def A_ne (s : L_ne) : List LV := [.v (.int .i64 s.phases), .xl (.int .i64) s.allowed, .own 0 0, .v (.bool s.r), .v (.bool s.up_), .own 1 0, .v (.int .i64 s.sum), .xl (.int .i64) s.l, .v (.int .i64 s.n), .v (.int .i64 s.i)]
def B_ne (s : L_ne) : List Blk := [⟨[.v (.int .i64 s.c_Kind), .v (.int .i64 s.c_Phases), .v (.int .i64 s.c_Max), .v (.int .i64 s.c_Need), .v (.int .i64 s.c_Delay)], 23, .cl, false⟩, ⟨[.xl (.int .i64) s.s_Pilots, .v (.int .i64 s.s_Ticks), .v (.int .i64 s.s_Got)], 26, .cl, false⟩]
noncomputable def body_ne : Code := ((loopsIn (Try.f5.body.getD .skip))[0]?).getD .skip
def fa_ne (s : L_ne) (vB : Bool) (vA : Int) (vG : Int) (vO : Int) (vP : List Int) : Rd L_ne :=
  if (decide (s.i < s.n)) then
    if vB then
      if ((0 : Int) != 0) then
        .stop (.ret) { s with r := s.up_ }
      else
        if (if decide (s.s_Got ≥ s.c_Need) then (vA != 0) || ((vG != (IntKind.i64.wrap (s.sum + (IntKind.i64.wrap ((IntKind.i64.wrap (2300 * vA)) * (cnt vO)))))) || ((decide (vG ≥ (IntKind.i64.wrap (s.c_Need + (IntKind.i64.wrap ((IntKind.i64.wrap (2300 * s.c_Max)) * 3)))))) && (vA != 0))) else (vG != (IntKind.i64.wrap (s.sum + (IntKind.i64.wrap ((IntKind.i64.wrap (2300 * vA)) * (cnt vO)))))) || ((decide (vG ≥ (IntKind.i64.wrap (s.c_Need + (IntKind.i64.wrap ((IntKind.i64.wrap (2300 * s.c_Max)) * 3)))))) && (vA != 0))) then
          .stop (.ret) { s with r := false, sum := (IntKind.i64.wrap (s.sum + (IntKind.i64.wrap ((IntKind.i64.wrap (2300 * vA)) * (cnt vO))))) }
        else
          .next { s with sum := (IntKind.i64.wrap (s.sum + (IntKind.i64.wrap ((IntKind.i64.wrap (2300 * vA)) * (cnt vO))))), i := (IntKind.i64.wrap (s.i + 1)), s_Pilots := vP, s_Ticks := (s.s_Ticks + 1), s_Got := vG }
    else
      if ((1 : Int) != 0) then
        .stop (.ret) { s with r := s.up_ }
      else
        if (if decide (s.s_Got ≥ s.c_Need) then ((0 : Int) != 0) || (((0 : Int) != (IntKind.i64.wrap (s.sum + (IntKind.i64.wrap ((IntKind.i64.wrap (2300 * 0)) * (cnt (0 : Int))))))) || ((decide ((0 : Int) ≥ (IntKind.i64.wrap (s.c_Need + (IntKind.i64.wrap ((IntKind.i64.wrap (2300 * s.c_Max)) * 3)))))) && ((0 : Int) != 0))) else ((0 : Int) != (IntKind.i64.wrap (s.sum + (IntKind.i64.wrap ((IntKind.i64.wrap (2300 * 0)) * (cnt (0 : Int))))))) || ((decide ((0 : Int) ≥ (IntKind.i64.wrap (s.c_Need + (IntKind.i64.wrap ((IntKind.i64.wrap (2300 * s.c_Max)) * 3)))))) && ((0 : Int) != 0))) then
          .stop (.ret) { s with r := false, sum := (IntKind.i64.wrap (s.sum + (IntKind.i64.wrap ((IntKind.i64.wrap (2300 * 0)) * (cnt (0 : Int)))))) }
        else
          .next { s with sum := (IntKind.i64.wrap (s.sum + (IntKind.i64.wrap ((IntKind.i64.wrap (2300 * 0)) * (cnt (0 : Int)))))), i := (IntKind.i64.wrap (s.i + 1)), s_Pilots := ([] : List Int), s_Ticks := (0 : Int), s_Got := (0 : Int) }
  else
    .stop (.exit 0) s
def f_ne (s : L_ne) : Rd L_ne := fa_ne s (drB s.c_Kind s.c_Phases s.c_Max s.c_Need s.c_Delay s.s_Pilots s.s_Ticks s.s_Got s.phases ((gi s.l s.i))) (dA s.c_Kind s.c_Phases s.c_Max s.c_Need s.c_Delay s.s_Pilots s.s_Ticks s.s_Got s.phases ((gi s.l s.i))) (dG s.c_Kind s.c_Phases s.c_Max s.c_Need s.c_Delay s.s_Pilots s.s_Ticks s.s_Got s.phases ((gi s.l s.i))) (dO s.c_Kind s.c_Phases s.c_Max s.c_Need s.c_Delay s.s_Pilots s.s_Ticks s.s_Got s.phases ((gi s.l s.i))) (dP s.s_Pilots ((gi s.l s.i)))
def P_ne (s : L_ne) := ((), s.phases, s.allowed, s.up_, s.l, s.n, s.c_Kind, s.c_Phases, s.c_Max, s.c_Need, s.c_Delay)
theorem ne_exa (s : L_ne) (vB : Bool) (vA : Int) (vG : Int) (vO : Int) (vP : List Int) : allR (fun _ => True) (fun x _ => x = .ret ∨ x = .exit 0) (fa_ne s vB vA vG vO vP) := by
  unfold fa_ne
  exact allR_ite (fun c1 => allR_ite (fun c2 => allR_ite (fun c3 => (.inl rfl)) (fun c3 => allR_ite (fun c4 => (.inl rfl)) (fun c4 => trivial))) (fun c2 => allR_ite (fun c5 => (.inl rfl)) (fun c5 => allR_ite (fun c6 => (.inl rfl)) (fun c6 => trivial)))) (fun c1 => (.inr rfl))
theorem ne_ex : ∀ s x s', f_ne s = .stop x s' → x = .ret ∨ x = .exit 0 := fun s x s' h => allR_stop (ne_exa s _ _ _ _ _) h
theorem ne_ka (s : L_ne) (vB : Bool) (vA : Int) (vG : Int) (vO : Int) (vP : List Int) : allR (fun s' => P_ne s' = P_ne s) (fun _ s' => P_ne s' = P_ne s) (fa_ne s vB vA vG vO vP) := by
  unfold fa_ne
  exact allR_ite (fun c1 => allR_ite (fun c2 => allR_ite (fun c3 => rfl) (fun c3 => allR_ite (fun c4 => rfl) (fun c4 => rfl))) (fun c2 => allR_ite (fun c5 => rfl) (fun c5 => allR_ite (fun c6 => rfl) (fun c6 => rfl)))) (fun c1 => rfl)
def E_ne (s : L_ne) : Prop := s.i = 0 ∧ carB s.c_Kind s.c_Phases s.c_Max s.c_Need s.c_Delay = true ∧ mindB s.s_Pilots s.s_Ticks s.s_Got = true ∧ s.s_Got ≤ s.c_Need + 6900 * s.c_Max ∧ s.sum = s.s_Got ∧ s.s_Ticks = s.i ∧ s.up_ = true ∧ s.l = s.allowed ∧ s.n = s.l.length ∧ s.n ≤ 200
def I_ne (s : L_ne) : Prop := (0 ≤ s.i ∧ s.i ≤ s.n) ∧ carB s.c_Kind s.c_Phases s.c_Max s.c_Need s.c_Delay = true ∧ mindB s.s_Pilots s.s_Ticks s.s_Got = true ∧ s.s_Got ≤ s.c_Need + 6900 * s.c_Max ∧ s.sum = s.s_Got ∧ s.s_Ticks = s.i ∧ s.up_ = true ∧ s.l = s.allowed ∧ s.n = s.l.length ∧ s.n ≤ 200
def mu_ne (s : L_ne) : Nat := (s.n - s.i).toNat
def Q_ne (x : Ex) (s s' : L_ne) : Prop := (x = .ret ∧ s'.r = true) ∨ (x = .exit 0 ∧ s'.s_Ticks = s'.allowed.length ∧ s'.up_ = true)
theorem ne_E : ∀ s, E_ne s → I_ne s := by
  intro s h
  obtain ⟨h0, h1, h2, h3, h4, h5, h6, h7, h8, h9⟩ := h
  exact ⟨⟨by omega, by omega⟩, h1, h2, h3, h4, h5, h6, h7, h8, h9⟩
theorem ne_da0 (s : L_ne) (hI : I_ne s) (vB : Bool) (vA : Int) (vG : Int) (vO : Int) (vP : List Int) (hvB : drB s.c_Kind s.c_Phases s.c_Max s.c_Need s.c_Delay s.s_Pilots s.s_Ticks s.s_Got s.phases ((gi s.l s.i)) = vB) (hvA : dA s.c_Kind s.c_Phases s.c_Max s.c_Need s.c_Delay s.s_Pilots s.s_Ticks s.s_Got s.phases ((gi s.l s.i)) = vA) (hvG : dG s.c_Kind s.c_Phases s.c_Max s.c_Need s.c_Delay s.s_Pilots s.s_Ticks s.s_Got s.phases ((gi s.l s.i)) = vG) (hvO : dO s.c_Kind s.c_Phases s.c_Max s.c_Need s.c_Delay s.s_Pilots s.s_Ticks s.s_Got s.phases ((gi s.l s.i)) = vO) (hvP : dP s.s_Pilots ((gi s.l s.i)) = vP) : allR (fun s' => I_ne s' ∧ mu_ne s' < mu_ne s) (fun x s' => Q_ne x s s') (fa_ne s vB vA vG vO vP) := by
  unfold fa_ne
  obtain ⟨⟨hi0, hi1⟩, hc, hm, hg, hs, ht, hu, hl, hn, hn2⟩ := hI
  refine allR_ite (fun c1 => ?_) (fun c1 => ?_)
  · refine allR_ite (fun c2 => ?_) (fun c2 => ?_)
    · refine allR_ite (fun c3 => ?_) (fun c3 => ?_)
      · exact absurd c3 (by decide)
      · refine allR_ite (fun c4 => ?_) (fun c4 => ?_)
        · have c1 : s.i < s.n := by simpa using c1
          rw [c2] at hvB
          obtain ⟨n1, n2, n3, n4, n5, n6⟩ := mind_next hvB hg
          have hc' := carB_iff.1 hc
          rw [hs, ← hvA, ← hvO, n5, hvG, hvA] at c4
          rw [hvA, hvG] at n4
          rw [hvA] at n3
          rw [hvG] at n2
          exfalso
          rw [wrapS (x := 2300 * s.c_Max) (by omega) (by omega), wrapS (x := 2300 * s.c_Max * 3) (by omega) (by omega), wrapS (x := s.c_Need + 2300 * s.c_Max * 3) (by omega) (by omega)] at c4
          by_cases hx : s.c_Need ≤ s.s_Got
          · simp [hx, n3 hx] at c4
          · simp [hx] at c4
            omega
        · have c1 : s.i < s.n := by simpa using c1
          rw [c2] at hvB
          obtain ⟨n1, n2, n3, n4, n5, n6⟩ := mind_next hvB hg
          rw [wrapS (x := s.i + 1) (by omega) (by omega)]
          rw [hs, ← hvA, ← hvO, n5, ← hvP, ← hvG]
          refine ⟨⟨⟨by simp only; omega, by simp only; omega⟩, hc, n1, n2, rfl, by simp only; omega, hu, hl, hn, hn2⟩, by simp only [mu_ne]; omega⟩
    · refine allR_ite (fun c3 => ?_) (fun c3 => ?_)
      · exact .inl ⟨rfl, hu⟩
      · refine allR_ite (fun c4 => ?_) (fun c4 => ?_)
        · exact absurd c3 (by decide)
        · exact absurd c3 (by decide)
  · have c1 : s.n ≤ s.i := by simpa using c1
    exact .inr ⟨rfl, by rw [← hl]; omega, hu⟩
theorem ne_da (s : L_ne) (hI : I_ne s) : allR (fun s' => I_ne s' ∧ mu_ne s' < mu_ne s) (fun x s' => Q_ne x s s') (f_ne s) := ne_da0 s hI _ _ _ _ _ rfl rfl rfl rfl rfl
theorem ne_d : ∀ s s', I_ne s → f_ne s = .next s' → I_ne s' ∧ mu_ne s' < mu_ne s := fun s s' hI h => allR_next (ne_da s hI) h
def sel_ne : List LV → List Blk → T L_ne
  | [.v (.int .i64 phases), .xl (.int .i64) allowed, .own 0 0, .v (.bool r), .v (.bool up_), .own 1 0, .v (.int .i64 sum), .xl (.int .i64) l, .v (.int .i64 n), .v (.int .i64 i)], [⟨[.v (.int .i64 c_Kind), .v (.int .i64 c_Phases), .v (.int .i64 c_Max), .v (.int .i64 c_Need), .v (.int .i64 c_Delay)], 23, .cl, false⟩, ⟨[.xl (.int .i64) s_Pilots, .v (.int .i64 s_Ticks), .v (.int .i64 s_Got)], 26, .cl, false⟩] => .req (E_ne ⟨phases, allowed, r, up_, sum, l, n, i, c_Kind, c_Phases, c_Max, c_Need, c_Delay, s_Pilots, s_Ticks, s_Got⟩) (.ok ⟨phases, allowed, r, up_, sum, l, n, i, c_Kind, c_Phases, c_Max, c_Need, c_Delay, s_Pilots, s_Ticks, s_Got⟩)
  | _, _ => .no
theorem sel_ne_ok : ∀ vals blks s, (sel_ne vals blks).all (fun x => x = s) → E_ne s ∧ vals = A_ne s ∧ blks = B_ne s := by
  intro vals blks s h
  unfold sel_ne at h
  split at h
  · obtain ⟨h1, rfl⟩ := h
    exact ⟨h1, rfl, rfl⟩
  · cases h
def run_ne (s : L_ne) : L_ne := { (runW f_ne (mu_ne s + 1) s).2 with phases := s.phases, allowed := s.allowed, up_ := s.up_, l := s.l, n := s.n, c_Kind := s.c_Kind, c_Phases := s.c_Phases, c_Max := s.c_Max, c_Need := s.c_Need, c_Delay := s.c_Delay }
theorem run_ne_eq (s : L_ne) : (runW f_ne (mu_ne s + 1) s).2 = run_ne s := by
  have hk := runW_keep (f := f_ne) P_ne (fun s s' hf => allR_next (ne_ka s _ _ _ _ _) hf) (fun s x s' hf => allR_stop (ne_ka s _ _ _ _ _) hf) (mu_ne s + 1) s
  unfold run_ne
  generalize (runW f_ne (mu_ne s + 1) s).2 = r at *
  cases r
  simp only [P_ne, Prod.mk.injEq, true_and] at hk
  simp only [L_ne.mk.injEq, hk, and_self]
def exn_ne (s : L_ne) : Ex := (runW f_ne (mu_ne s + 1) s).1
def out_ne (s : L_ne) : T (Ex × List LV × List Blk) := .br (isEx (exn_ne s) (.ret)) (.ok (.ret, frameOf 98 [1, 2, 3, 6, 7, 8, 10, 31, 32, 33] (A_ne (run_ne s)), B_ne (run_ne s))) (.ok (.exit 0, frameOf 98 [1, 2, 3, 6, 7, 8, 10, 31, 32, 33] (A_ne (run_ne s)), B_ne (run_ne s)))
theorem nfl_ne (s : L_ne) : backT [1, 2, 3, 6, 7, 8, 10, 31, 32, 33] [] (codex Try.prog noGlobs (specsOf [(10, S_head), (11, S_drw), (13, S_plug), (16, S_count)]) noK noLoops body_ne (frameOf 98 [1, 2, 3, 6, 7, 8, 10, 31, 32, 33] (A_ne s)) (B_ne s)) = .br (decide (s.i < s.n)) (.req (0 ≤ s.i ∧ s.i < (List.length s.l : Int)) (.br (drB s.c_Kind s.c_Phases s.c_Max s.c_Need s.c_Delay s.s_Pilots s.s_Ticks s.s_Got s.phases ((gi s.l s.i))) (.br ((0 : Int) != 0) (.ok (⟨.ret, 98, [.v (.int .i64 s.phases), .xl (.int .i64) s.allowed, .own 0 0, .v (.bool s.up_), .v (.bool s.up_), .own 1 0, .v (.int .i64 s.sum), .xl (.int .i64) s.l, .v (.int .i64 s.n), .v (.int .i64 s.i)], [⟨[.v (.int .i64 s.c_Kind), .v (.int .i64 s.c_Phases), .v (.int .i64 s.c_Max), .v (.int .i64 s.c_Need), .v (.int .i64 s.c_Delay)], 23, .cl, false⟩, ⟨[.xl (.int .i64) s.s_Pilots, .v (.int .i64 s.s_Ticks), .v (.int .i64 s.s_Got)], 26, .cl, false⟩], true⟩)) (.req (0 ≤ (dO s.c_Kind s.c_Phases s.c_Max s.c_Need s.c_Delay s.s_Pilots s.s_Ticks s.s_Got s.phases ((gi s.l s.i))) ∧ (dO s.c_Kind s.c_Phases s.c_Max s.c_Need s.c_Delay s.s_Pilots s.s_Ticks s.s_Got s.phases ((gi s.l s.i))) ≤ 7) (.br (if decide (s.s_Got ≥ s.c_Need) then ((dA s.c_Kind s.c_Phases s.c_Max s.c_Need s.c_Delay s.s_Pilots s.s_Ticks s.s_Got s.phases ((gi s.l s.i))) != 0) || (((dG s.c_Kind s.c_Phases s.c_Max s.c_Need s.c_Delay s.s_Pilots s.s_Ticks s.s_Got s.phases ((gi s.l s.i))) != (IntKind.i64.wrap (s.sum + (IntKind.i64.wrap ((IntKind.i64.wrap (2300 * (dA s.c_Kind s.c_Phases s.c_Max s.c_Need s.c_Delay s.s_Pilots s.s_Ticks s.s_Got s.phases ((gi s.l s.i))))) * (cnt (dO s.c_Kind s.c_Phases s.c_Max s.c_Need s.c_Delay s.s_Pilots s.s_Ticks s.s_Got s.phases ((gi s.l s.i))))))))) || ((decide ((dG s.c_Kind s.c_Phases s.c_Max s.c_Need s.c_Delay s.s_Pilots s.s_Ticks s.s_Got s.phases ((gi s.l s.i))) ≥ (IntKind.i64.wrap (s.c_Need + (IntKind.i64.wrap ((IntKind.i64.wrap (2300 * s.c_Max)) * 3)))))) && ((dA s.c_Kind s.c_Phases s.c_Max s.c_Need s.c_Delay s.s_Pilots s.s_Ticks s.s_Got s.phases ((gi s.l s.i))) != 0))) else ((dG s.c_Kind s.c_Phases s.c_Max s.c_Need s.c_Delay s.s_Pilots s.s_Ticks s.s_Got s.phases ((gi s.l s.i))) != (IntKind.i64.wrap (s.sum + (IntKind.i64.wrap ((IntKind.i64.wrap (2300 * (dA s.c_Kind s.c_Phases s.c_Max s.c_Need s.c_Delay s.s_Pilots s.s_Ticks s.s_Got s.phases ((gi s.l s.i))))) * (cnt (dO s.c_Kind s.c_Phases s.c_Max s.c_Need s.c_Delay s.s_Pilots s.s_Ticks s.s_Got s.phases ((gi s.l s.i))))))))) || ((decide ((dG s.c_Kind s.c_Phases s.c_Max s.c_Need s.c_Delay s.s_Pilots s.s_Ticks s.s_Got s.phases ((gi s.l s.i))) ≥ (IntKind.i64.wrap (s.c_Need + (IntKind.i64.wrap ((IntKind.i64.wrap (2300 * s.c_Max)) * 3)))))) && ((dA s.c_Kind s.c_Phases s.c_Max s.c_Need s.c_Delay s.s_Pilots s.s_Ticks s.s_Got s.phases ((gi s.l s.i))) != 0))) (.ok (⟨.ret, 98, [.v (.int .i64 s.phases), .xl (.int .i64) s.allowed, .own 0 0, .v (.bool false), .v (.bool s.up_), .own 1 0, .v (.int .i64 (IntKind.i64.wrap (s.sum + (IntKind.i64.wrap ((IntKind.i64.wrap (2300 * (dA s.c_Kind s.c_Phases s.c_Max s.c_Need s.c_Delay s.s_Pilots s.s_Ticks s.s_Got s.phases ((gi s.l s.i))))) * (cnt (dO s.c_Kind s.c_Phases s.c_Max s.c_Need s.c_Delay s.s_Pilots s.s_Ticks s.s_Got s.phases ((gi s.l s.i))))))))), .xl (.int .i64) s.l, .v (.int .i64 s.n), .v (.int .i64 s.i)], [⟨[.v (.int .i64 s.c_Kind), .v (.int .i64 s.c_Phases), .v (.int .i64 s.c_Max), .v (.int .i64 s.c_Need), .v (.int .i64 s.c_Delay)], 23, .cl, false⟩, ⟨[.xl (.int .i64) s.s_Pilots, .v (.int .i64 s.s_Ticks), .v (.int .i64 s.s_Got)], 26, .cl, false⟩], true⟩)) (.ok (⟨.normal, 98, [.v (.int .i64 s.phases), .xl (.int .i64) s.allowed, .own 0 0, .v (.bool s.r), .v (.bool s.up_), .own 1 0, .v (.int .i64 (IntKind.i64.wrap (s.sum + (IntKind.i64.wrap ((IntKind.i64.wrap (2300 * (dA s.c_Kind s.c_Phases s.c_Max s.c_Need s.c_Delay s.s_Pilots s.s_Ticks s.s_Got s.phases ((gi s.l s.i))))) * (cnt (dO s.c_Kind s.c_Phases s.c_Max s.c_Need s.c_Delay s.s_Pilots s.s_Ticks s.s_Got s.phases ((gi s.l s.i))))))))), .xl (.int .i64) s.l, .v (.int .i64 s.n), .v (.int .i64 (IntKind.i64.wrap (s.i + 1)))], [⟨[.v (.int .i64 s.c_Kind), .v (.int .i64 s.c_Phases), .v (.int .i64 s.c_Max), .v (.int .i64 s.c_Need), .v (.int .i64 s.c_Delay)], 23, .cl, false⟩, ⟨[.xl (.int .i64) (dP s.s_Pilots ((gi s.l s.i))), .v (.int .i64 (s.s_Ticks + 1)), .v (.int .i64 (dG s.c_Kind s.c_Phases s.c_Max s.c_Need s.c_Delay s.s_Pilots s.s_Ticks s.s_Got s.phases ((gi s.l s.i))))], 26, .cl, false⟩], true⟩))))) (.br ((1 : Int) != 0) (.ok (⟨.ret, 98, [.v (.int .i64 s.phases), .xl (.int .i64) s.allowed, .own 0 0, .v (.bool s.up_), .v (.bool s.up_), .own 1 0, .v (.int .i64 s.sum), .xl (.int .i64) s.l, .v (.int .i64 s.n), .v (.int .i64 s.i)], [⟨[.v (.int .i64 s.c_Kind), .v (.int .i64 s.c_Phases), .v (.int .i64 s.c_Max), .v (.int .i64 s.c_Need), .v (.int .i64 s.c_Delay)], 23, .cl, false⟩, ⟨[.xl (.int .i64) s.s_Pilots, .v (.int .i64 s.s_Ticks), .v (.int .i64 s.s_Got)], 26, .cl, false⟩], true⟩)) (.req (0 ≤ (0 : Int) ∧ (0 : Int) ≤ 7) (.br (if decide (s.s_Got ≥ s.c_Need) then ((0 : Int) != 0) || (((0 : Int) != (IntKind.i64.wrap (s.sum + (IntKind.i64.wrap ((IntKind.i64.wrap (2300 * 0)) * (cnt (0 : Int))))))) || ((decide ((0 : Int) ≥ (IntKind.i64.wrap (s.c_Need + (IntKind.i64.wrap ((IntKind.i64.wrap (2300 * s.c_Max)) * 3)))))) && ((0 : Int) != 0))) else ((0 : Int) != (IntKind.i64.wrap (s.sum + (IntKind.i64.wrap ((IntKind.i64.wrap (2300 * 0)) * (cnt (0 : Int))))))) || ((decide ((0 : Int) ≥ (IntKind.i64.wrap (s.c_Need + (IntKind.i64.wrap ((IntKind.i64.wrap (2300 * s.c_Max)) * 3)))))) && ((0 : Int) != 0))) (.ok (⟨.ret, 98, [.v (.int .i64 s.phases), .xl (.int .i64) s.allowed, .own 0 0, .v (.bool false), .v (.bool s.up_), .own 1 0, .v (.int .i64 (IntKind.i64.wrap (s.sum + (IntKind.i64.wrap ((IntKind.i64.wrap (2300 * 0)) * (cnt (0 : Int))))))), .xl (.int .i64) s.l, .v (.int .i64 s.n), .v (.int .i64 s.i)], [⟨[.v (.int .i64 s.c_Kind), .v (.int .i64 s.c_Phases), .v (.int .i64 s.c_Max), .v (.int .i64 s.c_Need), .v (.int .i64 s.c_Delay)], 23, .cl, false⟩, ⟨[.xl (.int .i64) s.s_Pilots, .v (.int .i64 s.s_Ticks), .v (.int .i64 s.s_Got)], 26, .cl, false⟩], true⟩)) (.ok (⟨.normal, 98, [.v (.int .i64 s.phases), .xl (.int .i64) s.allowed, .own 0 0, .v (.bool s.r), .v (.bool s.up_), .own 1 0, .v (.int .i64 (IntKind.i64.wrap (s.sum + (IntKind.i64.wrap ((IntKind.i64.wrap (2300 * 0)) * (cnt (0 : Int))))))), .xl (.int .i64) s.l, .v (.int .i64 s.n), .v (.int .i64 (IntKind.i64.wrap (s.i + 1)))], [⟨[.v (.int .i64 s.c_Kind), .v (.int .i64 s.c_Phases), .v (.int .i64 s.c_Max), .v (.int .i64 s.c_Need), .v (.int .i64 s.c_Delay)], 23, .cl, false⟩, ⟨[.xl (.int .i64) ([] : List Int), .v (.int .i64 0), .v (.int .i64 0)], 26, .cl, false⟩], true⟩))))))) (.ok (⟨.exit 0, 98, [.v (.int .i64 s.phases), .xl (.int .i64) s.allowed, .own 0 0, .v (.bool s.r), .v (.bool s.up_), .own 1 0, .v (.int .i64 s.sum), .xl (.int .i64) s.l, .v (.int .i64 s.n), .v (.int .i64 s.i)], [⟨[.v (.int .i64 s.c_Kind), .v (.int .i64 s.c_Phases), .v (.int .i64 s.c_Max), .v (.int .i64 s.c_Need), .v (.int .i64 s.c_Delay)], 23, .cl, false⟩, ⟨[.xl (.int .i64) s.s_Pilots, .v (.int .i64 s.s_Ticks), .v (.int .i64 s.s_Got)], 26, .cl, false⟩], true⟩)) := by kernel_rfl
theorem stp_ne (s : L_ne) (hI : I_ne s) : AllT (fun v => v = rdV 98 A_ne B_ne (f_ne s)) (backT [1, 2, 3, 6, 7, 8, 10, 31, 32, 33] [] (codex Try.prog noGlobs (specsOf [(10, S_head), (11, S_drw), (13, S_plug), (16, S_count)]) noK noLoops body_ne (frameOf 98 [1, 2, 3, 6, 7, 8, 10, 31, 32, 33] (A_ne s)) (B_ne s))) := by
  constructor
  rw [nfl_ne]
  unfold f_ne fa_ne
  exact
    stp_br (fun c1 =>
      ⟨by (obtain ⟨⟨hi0, hi1⟩, hc, hm, hg, hs, ht, hu, hl, hn, hn2⟩ := hI; (try simp at c1); first | omega | exact (mind_next ‹_› hg).2.2.2.2.2 | decide),
        stp_br (fun c2 =>
          stp_br (fun c3 =>
            rfl) (fun c3 =>
            ⟨by (obtain ⟨⟨hi0, hi1⟩, hc, hm, hg, hs, ht, hu, hl, hn, hn2⟩ := hI; (try simp at c1); first | omega | exact (mind_next ‹_› hg).2.2.2.2.2 | decide),
              stp_br (fun c4 =>
                rfl) (fun c4 =>
                rfl)⟩)) (fun c2 =>
          stp_br (fun c5 =>
            rfl) (fun c5 =>
            ⟨by (obtain ⟨⟨hi0, hi1⟩, hc, hm, hg, hs, ht, hu, hl, hn, hn2⟩ := hI; (try simp at c1); first | omega | exact (mind_next ‹_› hg).2.2.2.2.2 | decide),
              stp_br (fun c6 =>
                rfl) (fun c6 =>
                rfl)⟩))⟩) (fun c1 =>
      rfl)
theorem ne_end (s : L_ne) (hE : E_ne s) : ∃ s', I_ne s' ∧ f_ne s' = .stop (exn_ne s) (run_ne s) := by rw [← run_ne_eq]; exact runW_stop ne_d (mu_ne s + 1) s (ne_E s hE) (Nat.lt_succ_self _)
theorem snd_ne : Sound Try.prog noGlobs (.loop body_ne) (loopT 98 [1, 2, 3, 6, 7, 8, 10, 31, 32, 33] [] sel_ne out_ne) :=
  loop_view 98 [1, 2, 3, 6, 7, 8, 10, 31, 32, 33] [] A_ne B_ne I_ne E_ne mu_ne f_ne sel_ne out_ne (code_sound (Γ := specsOf [(10, S_head), (11, S_drw), (13, S_plug), (16, S_count)]) (K := noK) (L := noLoops) (specs_ok (l := [(10, S_head), (11, S_drw), (13, S_plug), (16, S_count)]) ⟨v_head, v_drw, v_plug, v_count, trivial⟩) noK_sound body_ne (fun b hb => by rw [show loopsIn body_ne = [] by kernel_rfl] at hb; cases hb))
    sel_ne_ok ne_E ne_d (fun s x s' hf => by have := ne_ex s x s' hf; intro h0; subst h0; simp at this) stp_ne (fun s hE => by
      obtain ⟨s', _, h2⟩ := ne_end s hE
      have h3 := ne_ex _ _ _ h2
      have h4 : (runW f_ne (mu_ne s + 1) s).1 = exn_ne s := rfl
      rw [h4, run_ne_eq]
      unfold out_ne
      generalize exn_ne s = e at h3
      rcases h3 with h3 | h3 <;> subst h3 <;> simp [T.all, isEx])
theorem ne_fin (s : L_ne) (hE : E_ne s) : ∃ s', I_ne s' ∧ Q_ne (exn_ne s) s' (run_ne s) := by
  obtain ⟨s', hI, hf⟩ := ne_end s hE
  exact ⟨s', hI, allR_stop (ne_da s' hI) hf⟩
def S0_l3 : List LV → T LV
  | [.v (.agg ⟨[.int .i64 k, .int .i64 ph, .int .i64 mx, .int .i64 nd, .int .i64 dl]⟩), .v (.int .i64 p2), .xl (.int .i64) al] => .ok (.v (.bool true))
  | _ => .no
noncomputable def S_l3 : List LV → T LV := upS Try.prog Try.f5.params.toList S0_l3
theorem nf_l3 (k ph mx nd dl p2 : Int) (al : List Int) : funu Try.prog noGlobs (specsOf [(10, S_head), (11, S_drw), (13, S_plug), (16, S_count)]) noK (fun i => if i = 7 then loopT 98 [1, 2, 3, 6, 7, 8, 10, 31, 32, 33] [] sel_ne out_ne else noLoops i) Try.f5 [.v (.agg #[.int .i64 k, .int .i64 ph, .int .i64 mx, .int .i64 nd, .int .i64 dl]), .v (.int .i64 p2), .xl (.int .i64) al] = .br (((plE k ph mx nd dl) != 0) || (decide (((List.length al : Int)) > 200))) (.ok (.v (.bool true))) (.req (E_ne (⟨p2, al, false, true, (0 : Int), al, ((List.length al : Int)), (0 : Int), k, ph, mx, nd, dl, ([] : List Int), (0 : Int), (0 : Int)⟩ : L_ne)) (.br (isEx (exn_ne (⟨p2, al, false, true, (0 : Int), al, ((List.length al : Int)), (0 : Int), k, ph, mx, nd, dl, ([] : List Int), (0 : Int), (0 : Int)⟩ : L_ne)) (.ret)) (.ok (.v (.bool (((run_ne (⟨p2, al, false, true, (0 : Int), al, ((List.length al : Int)), (0 : Int), k, ph, mx, nd, dl, ([] : List Int), (0 : Int), (0 : Int)⟩ : L_ne)).r))))) (.ok (.v (.bool (true && ((((run_ne (⟨p2, al, false, true, (0 : Int), al, ((List.length al : Int)), (0 : Int), k, ph, mx, nd, dl, ([] : List Int), (0 : Int), (0 : Int)⟩ : L_ne)).s_Ticks)) == ((List.length al : Int))))))))) := by kernel_rfl
theorem v_l3 : Valid Try.prog noGlobs 5 S_l3 := valid_ofu Try.func5 rfl (specs_ok (l := [(10, S_head), (11, S_drw), (13, S_plug), (16, S_count)]) ⟨v_head, v_drw, v_plug, v_count, trivial⟩) noK_sound (L := (fun i => if i = 7 then loopT 98 [1, 2, 3, 6, 7, 8, 10, 31, 32, 33] [] sel_ne out_ne else noLoops i)) (fun b hb => by
  rw [show loopsIn _ = [body_ne] by kernel_rfl] at hb
  simp only [List.mem_cons, List.not_mem_nil, or_false] at hb
  subst hb
  exact snd_ne) (fun args lv h => by
  unfold S0_l3 at h
  split at h
  · simp only [canL, canX]
    rw [nf_l3]
    rename_i k ph mx nd dl p2 al
    obtain rfl := h
    refine ⟨fun _ => rfl, fun hk => ?_⟩
    simp only [Bool.or_eq_false_iff, decide_eq_false_iff_not, bne_eq_false_iff_eq] at hk
    have hc : carB k ph mx nd dl = true := by
      have := hk.1
      unfold plE at this
      split at this
      · assumption
      · cases this
    have hc' := carB_iff.1 hc
    have hE : E_ne ⟨p2, al, false, true, (0 : Int), al, (List.length al : Int), (0 : Int), k, ph, mx, nd, dl, [], (0 : Int), (0 : Int)⟩ := ⟨rfl, hc, mind_zero, by simp only; omega, rfl, rfl, rfl, rfl, rfl, by simp only; omega⟩
    obtain ⟨s', _, hq⟩ := ne_fin _ hE
    refine ⟨hE, ?_⟩
    rcases hq with ⟨h1, h2⟩ | ⟨h1, h2, h3⟩
    · rw [h1, h2]; exact ⟨fun _ => rfl, fun h => by cases h⟩
    · rw [h1, h2]
      refine ⟨fun h => (by cases h), fun _ => congrArg (fun z => LV.v (.bool z)) ?_⟩
      show (true && ((List.length al : Int) == (List.length al : Int))) = true
      simp
  · cases h)
end Go.Proofs.Ytakkjfldfghfcaa
