/- ChargerOrder: what it computes. -/
import Derived.Test.YtiejmafkbfiekaaDoorCq
namespace Go.Proofs.YtiejmafkbfiekaaDoor
open Go.Sx
structure L_ord where
  l : List (Int × (Int × Int))
  up_ : Bool
  done : Int
  i : Int
  c_Name : ByteArray
  c_At : Int
  c_Phases : Int
  c_Min : Int
  c_Max : Int
  c_Step : Int
  c_Fallback : Int
  c_Owner : Int
  s_Phase : Int
  s_Amps : Int
  s_Left : Int
  s_Welded : Bool
def A_ord (s : L_ord) : List LV := [.xl tEv s.l, .own 0 0, .v (.bool s.up_), .own 1 0, .v (.int .i64 s.done), .v (.int .i64 s.i)]
def B_ord (s : L_ord) : List Blk := [⟨[.v (.string s.c_Name), .v (.int .i64 s.c_At), .v (.int .i64 s.c_Phases), .v (.int .i64 s.c_Min), .v (.int .i64 s.c_Max), .v (.int .i64 s.c_Step), .v (.int .i64 s.c_Fallback), .v (.int .i64 s.c_Owner)], 23⟩, ⟨[.v (.int .i64 s.s_Phase), .v (.int .i64 s.s_Amps), .v (.int .i64 s.s_Left), .v (.bool s.s_Welded)], 25⟩]
noncomputable def body_ord : Code := ((loopsIn (Tryd.f4.body.getD .skip))[0]?).getD .skip
def fa_ord (s : L_ord) (vE : Int) (vg : Int × Int × Int) (vP : Int) (vA : Int) (vL : Int) (vW : Bool) : Rd L_ord :=
  if decide (s.i < ((List.length s.l : Int))) then
    if vE != 0 then
      .next { s with i := (IntKind.i64.wrap (s.i + 1)) }
    else
      if ((vg).1) == 1 then
        .next { s with up_ := (s.up_ && ((vP == 4) == ((1 : Int) == 4))), done := (1 : Int), i := (IntKind.i64.wrap (s.i + 1)), s_Phase := vP, s_Amps := vA, s_Left := vL, s_Welded := vW }
      else
        if ((vg).1) == 3 then
          if s.done == 1 then
            .next { s with up_ := (s.up_ && ((vP == 4) == ((2 : Int) == 4))), done := (2 : Int), i := (IntKind.i64.wrap (s.i + 1)), s_Phase := vP, s_Amps := vA, s_Left := vL, s_Welded := vW }
          else
            .next { s with up_ := (s.up_ && ((vP == 4) == (s.done == 4))), i := (IntKind.i64.wrap (s.i + 1)), s_Phase := vP, s_Amps := vA, s_Left := vL, s_Welded := vW }
        else
          if ((vg).1) == 4 then
            if s.done == 2 then
              if (((vg).2).1) == 1 then
                .next { s with up_ := (s.up_ && ((vP == 4) == ((3 : Int) == 4))), done := (3 : Int), i := (IntKind.i64.wrap (s.i + 1)), s_Phase := vP, s_Amps := vA, s_Left := vL, s_Welded := vW }
              else
                .next { s with up_ := (s.up_ && ((vP == 4) == ((0 : Int) == 4))), done := (0 : Int), i := (IntKind.i64.wrap (s.i + 1)), s_Phase := vP, s_Amps := vA, s_Left := vL, s_Welded := vW }
            else
              .next { s with up_ := (s.up_ && ((vP == 4) == ((0 : Int) == 4))), done := (0 : Int), i := (IntKind.i64.wrap (s.i + 1)), s_Phase := vP, s_Amps := vA, s_Left := vL, s_Welded := vW }
          else
            if ((vg).1) == 5 then
              if s.done == 3 then
                .next { s with up_ := (s.up_ && ((vP == 4) == ((4 : Int) == 4))), done := (4 : Int), i := (IntKind.i64.wrap (s.i + 1)), s_Phase := vP, s_Amps := vA, s_Left := vL, s_Welded := vW }
              else
                .next { s with up_ := (s.up_ && ((vP == 4) == (s.done == 4))), i := (IntKind.i64.wrap (s.i + 1)), s_Phase := vP, s_Amps := vA, s_Left := vL, s_Welded := vW }
            else
              if ((vg).1) == 6 then
                if vP == 1 then
                  .next { s with up_ := (s.up_ && ((vP == 4) == ((1 : Int) == 4))), done := (1 : Int), i := (IntKind.i64.wrap (s.i + 1)), s_Phase := vP, s_Amps := vA, s_Left := vL, s_Welded := vW }
                else
                  .next { s with up_ := (s.up_ && ((vP == 4) == ((0 : Int) == 4))), done := (0 : Int), i := (IntKind.i64.wrap (s.i + 1)), s_Phase := vP, s_Amps := vA, s_Left := vL, s_Welded := vW }
              else
                if ((vg).1) == 2 then
                  if vP == 1 then
                    .next { s with up_ := (s.up_ && ((vP == 4) == ((1 : Int) == 4))), done := (1 : Int), i := (IntKind.i64.wrap (s.i + 1)), s_Phase := vP, s_Amps := vA, s_Left := vL, s_Welded := vW }
                  else
                    .next { s with up_ := (s.up_ && ((vP == 4) == ((0 : Int) == 4))), done := (0 : Int), i := (IntKind.i64.wrap (s.i + 1)), s_Phase := vP, s_Amps := vA, s_Left := vL, s_Welded := vW }
                else
                  if ((vg).1) == 9 then
                    if vP == 1 then
                      .next { s with up_ := (s.up_ && ((vP == 4) == ((1 : Int) == 4))), done := (1 : Int), i := (IntKind.i64.wrap (s.i + 1)), s_Phase := vP, s_Amps := vA, s_Left := vL, s_Welded := vW }
                    else
                      .next { s with up_ := (s.up_ && ((vP == 4) == ((0 : Int) == 4))), done := (0 : Int), i := (IntKind.i64.wrap (s.i + 1)), s_Phase := vP, s_Amps := vA, s_Left := vL, s_Welded := vW }
                  else
                    .next { s with up_ := (s.up_ && ((vP == 4) == (s.done == 4))), i := (IntKind.i64.wrap (s.i + 1)), s_Phase := vP, s_Amps := vA, s_Left := vL, s_Welded := vW }
  else
    .stop (.exit 0) s
def f_ord (s : L_ord) : Rd L_ord := fa_ord s (nE s.c_Phases s.c_Min s.c_Max s.c_Step s.c_Fallback s.s_Phase s.s_Amps s.s_Left s.s_Welded (((gx (e := tEv) s.l s.i)).1) ((((gx (e := tEv) s.l s.i)).2).1) ((((gx (e := tEv) s.l s.i)).2).2)) (gx (e := tEv) s.l s.i) (nP s.c_Phases s.c_Min s.c_Max s.c_Step s.c_Fallback s.s_Phase s.s_Amps s.s_Left s.s_Welded (((gx (e := tEv) s.l s.i)).1) ((((gx (e := tEv) s.l s.i)).2).1) ((((gx (e := tEv) s.l s.i)).2).2)) (nA s.c_Phases s.c_Min s.c_Max s.c_Step s.c_Fallback s.s_Phase s.s_Amps s.s_Left s.s_Welded (((gx (e := tEv) s.l s.i)).1) ((((gx (e := tEv) s.l s.i)).2).1) ((((gx (e := tEv) s.l s.i)).2).2)) (nL s.c_Phases s.c_Min s.c_Max s.c_Step s.c_Fallback s.s_Phase s.s_Amps s.s_Left s.s_Welded (((gx (e := tEv) s.l s.i)).1) ((((gx (e := tEv) s.l s.i)).2).1) ((((gx (e := tEv) s.l s.i)).2).2)) (nW s.c_Phases s.c_Min s.c_Max s.c_Step s.c_Fallback s.s_Phase s.s_Amps s.s_Left s.s_Welded (((gx (e := tEv) s.l s.i)).1) ((((gx (e := tEv) s.l s.i)).2).1) ((((gx (e := tEv) s.l s.i)).2).2))
def P_ord (s : L_ord) := ((), s.l, s.c_Name, s.c_At, s.c_Phases, s.c_Min, s.c_Max, s.c_Step, s.c_Fallback, s.c_Owner)
theorem ord_exa (s : L_ord) (vE : Int) (vg : Int × Int × Int) (vP : Int) (vA : Int) (vL : Int) (vW : Bool) : allR (fun _ => True) (fun x _ => x = .exit 0) (fa_ord s vE vg vP vA vL vW) := by
  unfold fa_ord
  exact allR_ite (fun c1 => allR_ite (fun c2 => trivial) (fun c2 => allR_ite (fun c3 => trivial) (fun c3 => allR_ite (fun c4 => allR_ite (fun c5 => trivial) (fun c5 => trivial)) (fun c4 => allR_ite (fun c6 => allR_ite (fun c7 => allR_ite (fun c8 => trivial) (fun c8 => trivial)) (fun c7 => trivial)) (fun c6 => allR_ite (fun c9 => allR_ite (fun c10 => trivial) (fun c10 => trivial)) (fun c9 => allR_ite (fun c11 => allR_ite (fun c12 => trivial) (fun c12 => trivial)) (fun c11 => allR_ite (fun c13 => allR_ite (fun c14 => trivial) (fun c14 => trivial)) (fun c13 => allR_ite (fun c15 => allR_ite (fun c16 => trivial) (fun c16 => trivial)) (fun c15 => trivial))))))))) (fun c1 => rfl)
theorem ord_ex : ∀ s x s', f_ord s = .stop x s' → x = .exit 0 := fun s x s' h => allR_stop (ord_exa s _ _ _ _ _ _) h
theorem ord_ka (s : L_ord) (vE : Int) (vg : Int × Int × Int) (vP : Int) (vA : Int) (vL : Int) (vW : Bool) : allR (fun s' => P_ord s' = P_ord s) (fun _ s' => P_ord s' = P_ord s) (fa_ord s vE vg vP vA vL vW) := by
  unfold fa_ord
  exact allR_ite (fun c1 => allR_ite (fun c2 => rfl) (fun c2 => allR_ite (fun c3 => rfl) (fun c3 => allR_ite (fun c4 => allR_ite (fun c5 => rfl) (fun c5 => rfl)) (fun c4 => allR_ite (fun c6 => allR_ite (fun c7 => allR_ite (fun c8 => rfl) (fun c8 => rfl)) (fun c7 => rfl)) (fun c6 => allR_ite (fun c9 => allR_ite (fun c10 => rfl) (fun c10 => rfl)) (fun c9 => allR_ite (fun c11 => allR_ite (fun c12 => rfl) (fun c12 => rfl)) (fun c11 => allR_ite (fun c13 => allR_ite (fun c14 => rfl) (fun c14 => rfl)) (fun c13 => allR_ite (fun c15 => allR_ite (fun c16 => rfl) (fun c16 => rfl)) (fun c15 => rfl))))))))) (fun c1 => rfl)
def R_ord (s : L_ord) : Prop := stP s.c_Phases s.c_Min s.c_Max s.c_Step s.c_Fallback s.s_Phase s.s_Amps s.s_Left s.s_Welded ∧ (s.l.length : Int) ≤ 100
def E_ord (s : L_ord) : Prop := R_ord s ∧ s.up_ = true ∧ s.i = 0 ∧ s.done = doneF s.s_Phase
def I_ord (s : L_ord) : Prop := R_ord s ∧ s.up_ = true ∧ 0 ≤ s.i ∧ s.i ≤ (s.l.length : Int) ∧ s.done = doneF s.s_Phase
def mu_ord (s : L_ord) : Nat := ((s.l.length : Int) - s.i).toNat
theorem ord_E : ∀ s, E_ord s → I_ord s := by
  intro s h
  obtain ⟨h1, h2, h3, h4⟩ := h
  exact ⟨h1, h2, by omega, by omega, h4⟩
theorem ord_da (s : L_ord) (hI : I_ord s) (vE : Int) (vg : Int × Int × Int) (vP : Int) (vA : Int) (vL : Int) (vW : Bool) (hvE : nE s.c_Phases s.c_Min s.c_Max s.c_Step s.c_Fallback s.s_Phase s.s_Amps s.s_Left s.s_Welded vg.1 vg.2.1 vg.2.2 = vE) (hvP : nP s.c_Phases s.c_Min s.c_Max s.c_Step s.c_Fallback s.s_Phase s.s_Amps s.s_Left s.s_Welded vg.1 vg.2.1 vg.2.2 = vP) (hvA : nA s.c_Phases s.c_Min s.c_Max s.c_Step s.c_Fallback s.s_Phase s.s_Amps s.s_Left s.s_Welded vg.1 vg.2.1 vg.2.2 = vA) (hvL : nL s.c_Phases s.c_Min s.c_Max s.c_Step s.c_Fallback s.s_Phase s.s_Amps s.s_Left s.s_Welded vg.1 vg.2.1 vg.2.2 = vL) (hvW : nW s.c_Phases s.c_Min s.c_Max s.c_Step s.c_Fallback s.s_Phase s.s_Amps s.s_Left s.s_Welded vg.1 vg.2.1 vg.2.2 = vW) : allR (fun s' => I_ord s' ∧ mu_ord s' < mu_ord s) (fun _ _ => True) (fa_ord s vE vg vP vA vL vW) := by
  obtain ⟨⟨hst, hlen⟩, hu, hi0, hi1, hJ⟩ := hI
  obtain ⟨ek, en, em⟩ := vg
  simp only at *
  unfold fa_ord
  refine allR_ite (fun hi => ?_) (fun _ => trivial)
  have hi : s.i < (s.l.length : Int) := by simpa using hi
  rw [wrapS (x := s.i + 1) (by omega) (by omega)]
  refine allR_ite (fun _ => ?_) (fun he => ?_)
  · exact ⟨⟨⟨hst, hlen⟩, hu, by simp only; omega, by simp only; omega, hJ⟩, by simp only [mu_ord]; omega⟩
  have he : vE = 0 := by simpa using he
  rw [he] at hvE
  obtain ⟨e1, e2, e3, e4⟩ := step_eqs hvE
  rw [hvP] at e1
  rw [hvA] at e2
  rw [hvL] at e3
  rw [hvW] at e4
  have hn := st_next hvE
  obtain ⟨a1, a2, a3, a4, a5⟩ := nE_ok hvE
  subst e1 e2 e3 e4
  have hmu : ∀ q : L_ord, q.i = s.i + 1 → q.l = s.l → mu_ord q < mu_ord s := fun q h1 h2 => by simp only [mu_ord, h1, h2]; omega
  have hst' := hst
  unfold stP at hst'
  have hn' := hn
  unfold stP at hn'
  have fin : ∀ (q : L_ord) (d : Int), q.l = s.l → q.i = s.i + 1 → R_ord q → q.up_ = (s.up_ && ((phF s.s_Phase s.s_Welded ek en == 4) == (d == 4))) → q.done = d → q.s_Phase = phF s.s_Phase s.s_Welded ek en → d = doneF (phF s.s_Phase s.s_Welded ek en) → I_ord q ∧ mu_ord q < mu_ord s := fun q d h1 h2 h3 h4 h5 h6 h7 => by
    refine ⟨⟨h3, ?_, by omega, by rw [h1, h2]; omega, by rw [h5, h6, h7]⟩, hmu q h2 h1⟩
    rw [h4, hu, h7, doneF_four hn'.2.1 hn'.2.2.1]
    rfl
  rw [hJ]
  repeat' (refine allR_ite (fun _ => ?_) (fun _ => ?_))
  all_goals refine fin _ _ rfl rfl ⟨hn, hlen⟩ rfl rfl rfl ?_
  all_goals clear fin hmu hn hn' hst hvE hvP hvA hvL hvW hi hi0 hi1 hlen hu
  all_goals (have pc := ph_cases hst'.2.2.2.2.2.2.2.2 a2 a3 a5; have d1 := doneF_spec s.s_Phase; have d2 := doneF_spec (phF s.s_Phase s.s_Welded ek en))
  all_goals generalize phF s.s_Phase s.s_Welded ek en = q at *
  all_goals generalize doneF s.s_Phase = dp at *
  all_goals generalize doneF q = dq at *
  all_goals simp only [beq_iff_eq, beq_eq_false_iff_ne, ne_eq] at *
  all_goals omega
theorem ord_d : ∀ s s', I_ord s → f_ord s = .next s' → I_ord s' ∧ mu_ord s' < mu_ord s := fun s s' hI h => allR_next (ord_da s hI _ _ _ _ _ _ rfl rfl rfl rfl rfl) h
def sel_ord : List LV → List Blk → T L_ord
  | [.xl (.pair (.int .i64) (.pair (.int .i64) (.int .i64))) l, .own 0 0, .v (.bool up_), .own 1 0, .v (.int .i64 done), .v (.int .i64 i)], [⟨[.v (.string c_Name), .v (.int .i64 c_At), .v (.int .i64 c_Phases), .v (.int .i64 c_Min), .v (.int .i64 c_Max), .v (.int .i64 c_Step), .v (.int .i64 c_Fallback), .v (.int .i64 c_Owner)], 23⟩, ⟨[.v (.int .i64 s_Phase), .v (.int .i64 s_Amps), .v (.int .i64 s_Left), .v (.bool s_Welded)], 25⟩] => .req (E_ord ⟨l, up_, done, i, c_Name, c_At, c_Phases, c_Min, c_Max, c_Step, c_Fallback, c_Owner, s_Phase, s_Amps, s_Left, s_Welded⟩) (.ok ⟨l, up_, done, i, c_Name, c_At, c_Phases, c_Min, c_Max, c_Step, c_Fallback, c_Owner, s_Phase, s_Amps, s_Left, s_Welded⟩)
  | _, _ => .no
theorem sel_ord_ok : ∀ vals blks s, (sel_ord vals blks).all (fun x => x = s) → E_ord s ∧ vals = A_ord s ∧ blks = B_ord s := by
  intro vals blks s h
  unfold sel_ord at h
  split at h
  · obtain ⟨h1, rfl⟩ := h
    exact ⟨h1, rfl, rfl⟩
  · cases h
def run_ord (s : L_ord) : L_ord := { (runW f_ord (mu_ord s + 1) s).2 with l := s.l, c_Name := s.c_Name, c_At := s.c_At, c_Phases := s.c_Phases, c_Min := s.c_Min, c_Max := s.c_Max, c_Step := s.c_Step, c_Fallback := s.c_Fallback, c_Owner := s.c_Owner }
theorem run_ord_eq (s : L_ord) : (runW f_ord (mu_ord s + 1) s).2 = run_ord s := by
  have hk := runW_keep (f := f_ord) P_ord (fun s s' hf => allR_next (ord_ka s _ _ _ _ _ _) hf) (fun s x s' hf => allR_stop (ord_ka s _ _ _ _ _ _) hf) (mu_ord s + 1) s
  unfold run_ord
  generalize (runW f_ord (mu_ord s + 1) s).2 = r at *
  cases r
  simp only [P_ord, Prod.mk.injEq, true_and] at hk
  simp only [L_ord.mk.injEq, hk, and_self]
def exn_ord (s : L_ord) : Ex := (runW f_ord (mu_ord s + 1) s).1
def out_ord (s : L_ord) : T (Ex × List LV × List Blk) := .ok (.exit 0, frameOf 87 [1, 2, 5, 7, 8, 9] (A_ord (run_ord s)), B_ord (run_ord s))
theorem nfl_ord (s : L_ord) : (codex Tryd.prog glC (specsOf [(10, S_head), (11, S_step), (17, S_start), (18, S_rch)]) noK noLoops body_ord (frameOf 87 [1, 2, 5, 7, 8, 9] (A_ord s)) (B_ord s)).bind (fun q => .ok (viewQ [1, 2, 5, 7, 8, 9] 2 q)) = .br (decide (s.i < ((List.length s.l : Int)))) (.req (0 ≤ s.i ∧ s.i < (List.length s.l : Int)) (.br ((nE s.c_Phases s.c_Min s.c_Max s.c_Step s.c_Fallback s.s_Phase s.s_Amps s.s_Left s.s_Welded (((gx (e := tEv) s.l s.i)).1) ((((gx (e := tEv) s.l s.i)).2).1) ((((gx (e := tEv) s.l s.i)).2).2)) != 0) (.ok (⟨.normal, 87, [.xl tEv s.l, .own 0 0, .v (.bool s.up_), .own 1 0, .v (.int .i64 s.done), .v (.int .i64 (IntKind.i64.wrap (s.i + 1)))], [⟨[.v (.string s.c_Name), .v (.int .i64 s.c_At), .v (.int .i64 s.c_Phases), .v (.int .i64 s.c_Min), .v (.int .i64 s.c_Max), .v (.int .i64 s.c_Step), .v (.int .i64 s.c_Fallback), .v (.int .i64 s.c_Owner)], 23⟩, ⟨[.v (.int .i64 s.s_Phase), .v (.int .i64 s.s_Amps), .v (.int .i64 s.s_Left), .v (.bool s.s_Welded)], 25⟩], true⟩)) (.req (0 ≤ s.i ∧ s.i < (List.length s.l : Int)) (.br ((((gx (e := tEv) s.l s.i)).1) == 1) (.ok (⟨.normal, 87, [.xl tEv s.l, .own 0 0, .v (.bool (s.up_ && (((nP s.c_Phases s.c_Min s.c_Max s.c_Step s.c_Fallback s.s_Phase s.s_Amps s.s_Left s.s_Welded (((gx (e := tEv) s.l s.i)).1) ((((gx (e := tEv) s.l s.i)).2).1) ((((gx (e := tEv) s.l s.i)).2).2)) == 4) == ((1 : Int) == 4)))), .own 1 0, .v (.int .i64 1), .v (.int .i64 (IntKind.i64.wrap (s.i + 1)))], [⟨[.v (.string s.c_Name), .v (.int .i64 s.c_At), .v (.int .i64 s.c_Phases), .v (.int .i64 s.c_Min), .v (.int .i64 s.c_Max), .v (.int .i64 s.c_Step), .v (.int .i64 s.c_Fallback), .v (.int .i64 s.c_Owner)], 23⟩, ⟨[.v (.int .i64 (nP s.c_Phases s.c_Min s.c_Max s.c_Step s.c_Fallback s.s_Phase s.s_Amps s.s_Left s.s_Welded (((gx (e := tEv) s.l s.i)).1) ((((gx (e := tEv) s.l s.i)).2).1) ((((gx (e := tEv) s.l s.i)).2).2))), .v (.int .i64 (nA s.c_Phases s.c_Min s.c_Max s.c_Step s.c_Fallback s.s_Phase s.s_Amps s.s_Left s.s_Welded (((gx (e := tEv) s.l s.i)).1) ((((gx (e := tEv) s.l s.i)).2).1) ((((gx (e := tEv) s.l s.i)).2).2))), .v (.int .i64 (nL s.c_Phases s.c_Min s.c_Max s.c_Step s.c_Fallback s.s_Phase s.s_Amps s.s_Left s.s_Welded (((gx (e := tEv) s.l s.i)).1) ((((gx (e := tEv) s.l s.i)).2).1) ((((gx (e := tEv) s.l s.i)).2).2))), .v (.bool (nW s.c_Phases s.c_Min s.c_Max s.c_Step s.c_Fallback s.s_Phase s.s_Amps s.s_Left s.s_Welded (((gx (e := tEv) s.l s.i)).1) ((((gx (e := tEv) s.l s.i)).2).1) ((((gx (e := tEv) s.l s.i)).2).2)))], 25⟩], true⟩)) (.br ((((gx (e := tEv) s.l s.i)).1) == 3) (.br (s.done == 1) (.ok (⟨.normal, 87, [.xl tEv s.l, .own 0 0, .v (.bool (s.up_ && (((nP s.c_Phases s.c_Min s.c_Max s.c_Step s.c_Fallback s.s_Phase s.s_Amps s.s_Left s.s_Welded (((gx (e := tEv) s.l s.i)).1) ((((gx (e := tEv) s.l s.i)).2).1) ((((gx (e := tEv) s.l s.i)).2).2)) == 4) == ((2 : Int) == 4)))), .own 1 0, .v (.int .i64 2), .v (.int .i64 (IntKind.i64.wrap (s.i + 1)))], [⟨[.v (.string s.c_Name), .v (.int .i64 s.c_At), .v (.int .i64 s.c_Phases), .v (.int .i64 s.c_Min), .v (.int .i64 s.c_Max), .v (.int .i64 s.c_Step), .v (.int .i64 s.c_Fallback), .v (.int .i64 s.c_Owner)], 23⟩, ⟨[.v (.int .i64 (nP s.c_Phases s.c_Min s.c_Max s.c_Step s.c_Fallback s.s_Phase s.s_Amps s.s_Left s.s_Welded (((gx (e := tEv) s.l s.i)).1) ((((gx (e := tEv) s.l s.i)).2).1) ((((gx (e := tEv) s.l s.i)).2).2))), .v (.int .i64 (nA s.c_Phases s.c_Min s.c_Max s.c_Step s.c_Fallback s.s_Phase s.s_Amps s.s_Left s.s_Welded (((gx (e := tEv) s.l s.i)).1) ((((gx (e := tEv) s.l s.i)).2).1) ((((gx (e := tEv) s.l s.i)).2).2))), .v (.int .i64 (nL s.c_Phases s.c_Min s.c_Max s.c_Step s.c_Fallback s.s_Phase s.s_Amps s.s_Left s.s_Welded (((gx (e := tEv) s.l s.i)).1) ((((gx (e := tEv) s.l s.i)).2).1) ((((gx (e := tEv) s.l s.i)).2).2))), .v (.bool (nW s.c_Phases s.c_Min s.c_Max s.c_Step s.c_Fallback s.s_Phase s.s_Amps s.s_Left s.s_Welded (((gx (e := tEv) s.l s.i)).1) ((((gx (e := tEv) s.l s.i)).2).1) ((((gx (e := tEv) s.l s.i)).2).2)))], 25⟩], true⟩)) (.ok (⟨.normal, 87, [.xl tEv s.l, .own 0 0, .v (.bool (s.up_ && (((nP s.c_Phases s.c_Min s.c_Max s.c_Step s.c_Fallback s.s_Phase s.s_Amps s.s_Left s.s_Welded (((gx (e := tEv) s.l s.i)).1) ((((gx (e := tEv) s.l s.i)).2).1) ((((gx (e := tEv) s.l s.i)).2).2)) == 4) == (s.done == 4)))), .own 1 0, .v (.int .i64 s.done), .v (.int .i64 (IntKind.i64.wrap (s.i + 1)))], [⟨[.v (.string s.c_Name), .v (.int .i64 s.c_At), .v (.int .i64 s.c_Phases), .v (.int .i64 s.c_Min), .v (.int .i64 s.c_Max), .v (.int .i64 s.c_Step), .v (.int .i64 s.c_Fallback), .v (.int .i64 s.c_Owner)], 23⟩, ⟨[.v (.int .i64 (nP s.c_Phases s.c_Min s.c_Max s.c_Step s.c_Fallback s.s_Phase s.s_Amps s.s_Left s.s_Welded (((gx (e := tEv) s.l s.i)).1) ((((gx (e := tEv) s.l s.i)).2).1) ((((gx (e := tEv) s.l s.i)).2).2))), .v (.int .i64 (nA s.c_Phases s.c_Min s.c_Max s.c_Step s.c_Fallback s.s_Phase s.s_Amps s.s_Left s.s_Welded (((gx (e := tEv) s.l s.i)).1) ((((gx (e := tEv) s.l s.i)).2).1) ((((gx (e := tEv) s.l s.i)).2).2))), .v (.int .i64 (nL s.c_Phases s.c_Min s.c_Max s.c_Step s.c_Fallback s.s_Phase s.s_Amps s.s_Left s.s_Welded (((gx (e := tEv) s.l s.i)).1) ((((gx (e := tEv) s.l s.i)).2).1) ((((gx (e := tEv) s.l s.i)).2).2))), .v (.bool (nW s.c_Phases s.c_Min s.c_Max s.c_Step s.c_Fallback s.s_Phase s.s_Amps s.s_Left s.s_Welded (((gx (e := tEv) s.l s.i)).1) ((((gx (e := tEv) s.l s.i)).2).1) ((((gx (e := tEv) s.l s.i)).2).2)))], 25⟩], true⟩))) (.br ((((gx (e := tEv) s.l s.i)).1) == 4) (.br (s.done == 2) (.req (0 ≤ s.i ∧ s.i < (List.length s.l : Int)) (.br (((((gx (e := tEv) s.l s.i)).2).1) == 1) (.ok (⟨.normal, 87, [.xl tEv s.l, .own 0 0, .v (.bool (s.up_ && (((nP s.c_Phases s.c_Min s.c_Max s.c_Step s.c_Fallback s.s_Phase s.s_Amps s.s_Left s.s_Welded (((gx (e := tEv) s.l s.i)).1) ((((gx (e := tEv) s.l s.i)).2).1) ((((gx (e := tEv) s.l s.i)).2).2)) == 4) == ((3 : Int) == 4)))), .own 1 0, .v (.int .i64 3), .v (.int .i64 (IntKind.i64.wrap (s.i + 1)))], [⟨[.v (.string s.c_Name), .v (.int .i64 s.c_At), .v (.int .i64 s.c_Phases), .v (.int .i64 s.c_Min), .v (.int .i64 s.c_Max), .v (.int .i64 s.c_Step), .v (.int .i64 s.c_Fallback), .v (.int .i64 s.c_Owner)], 23⟩, ⟨[.v (.int .i64 (nP s.c_Phases s.c_Min s.c_Max s.c_Step s.c_Fallback s.s_Phase s.s_Amps s.s_Left s.s_Welded (((gx (e := tEv) s.l s.i)).1) ((((gx (e := tEv) s.l s.i)).2).1) ((((gx (e := tEv) s.l s.i)).2).2))), .v (.int .i64 (nA s.c_Phases s.c_Min s.c_Max s.c_Step s.c_Fallback s.s_Phase s.s_Amps s.s_Left s.s_Welded (((gx (e := tEv) s.l s.i)).1) ((((gx (e := tEv) s.l s.i)).2).1) ((((gx (e := tEv) s.l s.i)).2).2))), .v (.int .i64 (nL s.c_Phases s.c_Min s.c_Max s.c_Step s.c_Fallback s.s_Phase s.s_Amps s.s_Left s.s_Welded (((gx (e := tEv) s.l s.i)).1) ((((gx (e := tEv) s.l s.i)).2).1) ((((gx (e := tEv) s.l s.i)).2).2))), .v (.bool (nW s.c_Phases s.c_Min s.c_Max s.c_Step s.c_Fallback s.s_Phase s.s_Amps s.s_Left s.s_Welded (((gx (e := tEv) s.l s.i)).1) ((((gx (e := tEv) s.l s.i)).2).1) ((((gx (e := tEv) s.l s.i)).2).2)))], 25⟩], true⟩)) (.ok (⟨.normal, 87, [.xl tEv s.l, .own 0 0, .v (.bool (s.up_ && (((nP s.c_Phases s.c_Min s.c_Max s.c_Step s.c_Fallback s.s_Phase s.s_Amps s.s_Left s.s_Welded (((gx (e := tEv) s.l s.i)).1) ((((gx (e := tEv) s.l s.i)).2).1) ((((gx (e := tEv) s.l s.i)).2).2)) == 4) == ((0 : Int) == 4)))), .own 1 0, .v (.int .i64 0), .v (.int .i64 (IntKind.i64.wrap (s.i + 1)))], [⟨[.v (.string s.c_Name), .v (.int .i64 s.c_At), .v (.int .i64 s.c_Phases), .v (.int .i64 s.c_Min), .v (.int .i64 s.c_Max), .v (.int .i64 s.c_Step), .v (.int .i64 s.c_Fallback), .v (.int .i64 s.c_Owner)], 23⟩, ⟨[.v (.int .i64 (nP s.c_Phases s.c_Min s.c_Max s.c_Step s.c_Fallback s.s_Phase s.s_Amps s.s_Left s.s_Welded (((gx (e := tEv) s.l s.i)).1) ((((gx (e := tEv) s.l s.i)).2).1) ((((gx (e := tEv) s.l s.i)).2).2))), .v (.int .i64 (nA s.c_Phases s.c_Min s.c_Max s.c_Step s.c_Fallback s.s_Phase s.s_Amps s.s_Left s.s_Welded (((gx (e := tEv) s.l s.i)).1) ((((gx (e := tEv) s.l s.i)).2).1) ((((gx (e := tEv) s.l s.i)).2).2))), .v (.int .i64 (nL s.c_Phases s.c_Min s.c_Max s.c_Step s.c_Fallback s.s_Phase s.s_Amps s.s_Left s.s_Welded (((gx (e := tEv) s.l s.i)).1) ((((gx (e := tEv) s.l s.i)).2).1) ((((gx (e := tEv) s.l s.i)).2).2))), .v (.bool (nW s.c_Phases s.c_Min s.c_Max s.c_Step s.c_Fallback s.s_Phase s.s_Amps s.s_Left s.s_Welded (((gx (e := tEv) s.l s.i)).1) ((((gx (e := tEv) s.l s.i)).2).1) ((((gx (e := tEv) s.l s.i)).2).2)))], 25⟩], true⟩)))) (.ok (⟨.normal, 87, [.xl tEv s.l, .own 0 0, .v (.bool (s.up_ && (((nP s.c_Phases s.c_Min s.c_Max s.c_Step s.c_Fallback s.s_Phase s.s_Amps s.s_Left s.s_Welded (((gx (e := tEv) s.l s.i)).1) ((((gx (e := tEv) s.l s.i)).2).1) ((((gx (e := tEv) s.l s.i)).2).2)) == 4) == ((0 : Int) == 4)))), .own 1 0, .v (.int .i64 0), .v (.int .i64 (IntKind.i64.wrap (s.i + 1)))], [⟨[.v (.string s.c_Name), .v (.int .i64 s.c_At), .v (.int .i64 s.c_Phases), .v (.int .i64 s.c_Min), .v (.int .i64 s.c_Max), .v (.int .i64 s.c_Step), .v (.int .i64 s.c_Fallback), .v (.int .i64 s.c_Owner)], 23⟩, ⟨[.v (.int .i64 (nP s.c_Phases s.c_Min s.c_Max s.c_Step s.c_Fallback s.s_Phase s.s_Amps s.s_Left s.s_Welded (((gx (e := tEv) s.l s.i)).1) ((((gx (e := tEv) s.l s.i)).2).1) ((((gx (e := tEv) s.l s.i)).2).2))), .v (.int .i64 (nA s.c_Phases s.c_Min s.c_Max s.c_Step s.c_Fallback s.s_Phase s.s_Amps s.s_Left s.s_Welded (((gx (e := tEv) s.l s.i)).1) ((((gx (e := tEv) s.l s.i)).2).1) ((((gx (e := tEv) s.l s.i)).2).2))), .v (.int .i64 (nL s.c_Phases s.c_Min s.c_Max s.c_Step s.c_Fallback s.s_Phase s.s_Amps s.s_Left s.s_Welded (((gx (e := tEv) s.l s.i)).1) ((((gx (e := tEv) s.l s.i)).2).1) ((((gx (e := tEv) s.l s.i)).2).2))), .v (.bool (nW s.c_Phases s.c_Min s.c_Max s.c_Step s.c_Fallback s.s_Phase s.s_Amps s.s_Left s.s_Welded (((gx (e := tEv) s.l s.i)).1) ((((gx (e := tEv) s.l s.i)).2).1) ((((gx (e := tEv) s.l s.i)).2).2)))], 25⟩], true⟩))) (.br ((((gx (e := tEv) s.l s.i)).1) == 5) (.br (s.done == 3) (.ok (⟨.normal, 87, [.xl tEv s.l, .own 0 0, .v (.bool (s.up_ && (((nP s.c_Phases s.c_Min s.c_Max s.c_Step s.c_Fallback s.s_Phase s.s_Amps s.s_Left s.s_Welded (((gx (e := tEv) s.l s.i)).1) ((((gx (e := tEv) s.l s.i)).2).1) ((((gx (e := tEv) s.l s.i)).2).2)) == 4) == ((4 : Int) == 4)))), .own 1 0, .v (.int .i64 4), .v (.int .i64 (IntKind.i64.wrap (s.i + 1)))], [⟨[.v (.string s.c_Name), .v (.int .i64 s.c_At), .v (.int .i64 s.c_Phases), .v (.int .i64 s.c_Min), .v (.int .i64 s.c_Max), .v (.int .i64 s.c_Step), .v (.int .i64 s.c_Fallback), .v (.int .i64 s.c_Owner)], 23⟩, ⟨[.v (.int .i64 (nP s.c_Phases s.c_Min s.c_Max s.c_Step s.c_Fallback s.s_Phase s.s_Amps s.s_Left s.s_Welded (((gx (e := tEv) s.l s.i)).1) ((((gx (e := tEv) s.l s.i)).2).1) ((((gx (e := tEv) s.l s.i)).2).2))), .v (.int .i64 (nA s.c_Phases s.c_Min s.c_Max s.c_Step s.c_Fallback s.s_Phase s.s_Amps s.s_Left s.s_Welded (((gx (e := tEv) s.l s.i)).1) ((((gx (e := tEv) s.l s.i)).2).1) ((((gx (e := tEv) s.l s.i)).2).2))), .v (.int .i64 (nL s.c_Phases s.c_Min s.c_Max s.c_Step s.c_Fallback s.s_Phase s.s_Amps s.s_Left s.s_Welded (((gx (e := tEv) s.l s.i)).1) ((((gx (e := tEv) s.l s.i)).2).1) ((((gx (e := tEv) s.l s.i)).2).2))), .v (.bool (nW s.c_Phases s.c_Min s.c_Max s.c_Step s.c_Fallback s.s_Phase s.s_Amps s.s_Left s.s_Welded (((gx (e := tEv) s.l s.i)).1) ((((gx (e := tEv) s.l s.i)).2).1) ((((gx (e := tEv) s.l s.i)).2).2)))], 25⟩], true⟩)) (.ok (⟨.normal, 87, [.xl tEv s.l, .own 0 0, .v (.bool (s.up_ && (((nP s.c_Phases s.c_Min s.c_Max s.c_Step s.c_Fallback s.s_Phase s.s_Amps s.s_Left s.s_Welded (((gx (e := tEv) s.l s.i)).1) ((((gx (e := tEv) s.l s.i)).2).1) ((((gx (e := tEv) s.l s.i)).2).2)) == 4) == (s.done == 4)))), .own 1 0, .v (.int .i64 s.done), .v (.int .i64 (IntKind.i64.wrap (s.i + 1)))], [⟨[.v (.string s.c_Name), .v (.int .i64 s.c_At), .v (.int .i64 s.c_Phases), .v (.int .i64 s.c_Min), .v (.int .i64 s.c_Max), .v (.int .i64 s.c_Step), .v (.int .i64 s.c_Fallback), .v (.int .i64 s.c_Owner)], 23⟩, ⟨[.v (.int .i64 (nP s.c_Phases s.c_Min s.c_Max s.c_Step s.c_Fallback s.s_Phase s.s_Amps s.s_Left s.s_Welded (((gx (e := tEv) s.l s.i)).1) ((((gx (e := tEv) s.l s.i)).2).1) ((((gx (e := tEv) s.l s.i)).2).2))), .v (.int .i64 (nA s.c_Phases s.c_Min s.c_Max s.c_Step s.c_Fallback s.s_Phase s.s_Amps s.s_Left s.s_Welded (((gx (e := tEv) s.l s.i)).1) ((((gx (e := tEv) s.l s.i)).2).1) ((((gx (e := tEv) s.l s.i)).2).2))), .v (.int .i64 (nL s.c_Phases s.c_Min s.c_Max s.c_Step s.c_Fallback s.s_Phase s.s_Amps s.s_Left s.s_Welded (((gx (e := tEv) s.l s.i)).1) ((((gx (e := tEv) s.l s.i)).2).1) ((((gx (e := tEv) s.l s.i)).2).2))), .v (.bool (nW s.c_Phases s.c_Min s.c_Max s.c_Step s.c_Fallback s.s_Phase s.s_Amps s.s_Left s.s_Welded (((gx (e := tEv) s.l s.i)).1) ((((gx (e := tEv) s.l s.i)).2).1) ((((gx (e := tEv) s.l s.i)).2).2)))], 25⟩], true⟩))) (.br ((((gx (e := tEv) s.l s.i)).1) == 6) (.br ((nP s.c_Phases s.c_Min s.c_Max s.c_Step s.c_Fallback s.s_Phase s.s_Amps s.s_Left s.s_Welded (((gx (e := tEv) s.l s.i)).1) ((((gx (e := tEv) s.l s.i)).2).1) ((((gx (e := tEv) s.l s.i)).2).2)) == 1) (.ok (⟨.normal, 87, [.xl tEv s.l, .own 0 0, .v (.bool (s.up_ && (((nP s.c_Phases s.c_Min s.c_Max s.c_Step s.c_Fallback s.s_Phase s.s_Amps s.s_Left s.s_Welded (((gx (e := tEv) s.l s.i)).1) ((((gx (e := tEv) s.l s.i)).2).1) ((((gx (e := tEv) s.l s.i)).2).2)) == 4) == ((1 : Int) == 4)))), .own 1 0, .v (.int .i64 1), .v (.int .i64 (IntKind.i64.wrap (s.i + 1)))], [⟨[.v (.string s.c_Name), .v (.int .i64 s.c_At), .v (.int .i64 s.c_Phases), .v (.int .i64 s.c_Min), .v (.int .i64 s.c_Max), .v (.int .i64 s.c_Step), .v (.int .i64 s.c_Fallback), .v (.int .i64 s.c_Owner)], 23⟩, ⟨[.v (.int .i64 (nP s.c_Phases s.c_Min s.c_Max s.c_Step s.c_Fallback s.s_Phase s.s_Amps s.s_Left s.s_Welded (((gx (e := tEv) s.l s.i)).1) ((((gx (e := tEv) s.l s.i)).2).1) ((((gx (e := tEv) s.l s.i)).2).2))), .v (.int .i64 (nA s.c_Phases s.c_Min s.c_Max s.c_Step s.c_Fallback s.s_Phase s.s_Amps s.s_Left s.s_Welded (((gx (e := tEv) s.l s.i)).1) ((((gx (e := tEv) s.l s.i)).2).1) ((((gx (e := tEv) s.l s.i)).2).2))), .v (.int .i64 (nL s.c_Phases s.c_Min s.c_Max s.c_Step s.c_Fallback s.s_Phase s.s_Amps s.s_Left s.s_Welded (((gx (e := tEv) s.l s.i)).1) ((((gx (e := tEv) s.l s.i)).2).1) ((((gx (e := tEv) s.l s.i)).2).2))), .v (.bool (nW s.c_Phases s.c_Min s.c_Max s.c_Step s.c_Fallback s.s_Phase s.s_Amps s.s_Left s.s_Welded (((gx (e := tEv) s.l s.i)).1) ((((gx (e := tEv) s.l s.i)).2).1) ((((gx (e := tEv) s.l s.i)).2).2)))], 25⟩], true⟩)) (.ok (⟨.normal, 87, [.xl tEv s.l, .own 0 0, .v (.bool (s.up_ && (((nP s.c_Phases s.c_Min s.c_Max s.c_Step s.c_Fallback s.s_Phase s.s_Amps s.s_Left s.s_Welded (((gx (e := tEv) s.l s.i)).1) ((((gx (e := tEv) s.l s.i)).2).1) ((((gx (e := tEv) s.l s.i)).2).2)) == 4) == ((0 : Int) == 4)))), .own 1 0, .v (.int .i64 0), .v (.int .i64 (IntKind.i64.wrap (s.i + 1)))], [⟨[.v (.string s.c_Name), .v (.int .i64 s.c_At), .v (.int .i64 s.c_Phases), .v (.int .i64 s.c_Min), .v (.int .i64 s.c_Max), .v (.int .i64 s.c_Step), .v (.int .i64 s.c_Fallback), .v (.int .i64 s.c_Owner)], 23⟩, ⟨[.v (.int .i64 (nP s.c_Phases s.c_Min s.c_Max s.c_Step s.c_Fallback s.s_Phase s.s_Amps s.s_Left s.s_Welded (((gx (e := tEv) s.l s.i)).1) ((((gx (e := tEv) s.l s.i)).2).1) ((((gx (e := tEv) s.l s.i)).2).2))), .v (.int .i64 (nA s.c_Phases s.c_Min s.c_Max s.c_Step s.c_Fallback s.s_Phase s.s_Amps s.s_Left s.s_Welded (((gx (e := tEv) s.l s.i)).1) ((((gx (e := tEv) s.l s.i)).2).1) ((((gx (e := tEv) s.l s.i)).2).2))), .v (.int .i64 (nL s.c_Phases s.c_Min s.c_Max s.c_Step s.c_Fallback s.s_Phase s.s_Amps s.s_Left s.s_Welded (((gx (e := tEv) s.l s.i)).1) ((((gx (e := tEv) s.l s.i)).2).1) ((((gx (e := tEv) s.l s.i)).2).2))), .v (.bool (nW s.c_Phases s.c_Min s.c_Max s.c_Step s.c_Fallback s.s_Phase s.s_Amps s.s_Left s.s_Welded (((gx (e := tEv) s.l s.i)).1) ((((gx (e := tEv) s.l s.i)).2).1) ((((gx (e := tEv) s.l s.i)).2).2)))], 25⟩], true⟩))) (.br ((((gx (e := tEv) s.l s.i)).1) == 2) (.br ((nP s.c_Phases s.c_Min s.c_Max s.c_Step s.c_Fallback s.s_Phase s.s_Amps s.s_Left s.s_Welded (((gx (e := tEv) s.l s.i)).1) ((((gx (e := tEv) s.l s.i)).2).1) ((((gx (e := tEv) s.l s.i)).2).2)) == 1) (.ok (⟨.normal, 87, [.xl tEv s.l, .own 0 0, .v (.bool (s.up_ && (((nP s.c_Phases s.c_Min s.c_Max s.c_Step s.c_Fallback s.s_Phase s.s_Amps s.s_Left s.s_Welded (((gx (e := tEv) s.l s.i)).1) ((((gx (e := tEv) s.l s.i)).2).1) ((((gx (e := tEv) s.l s.i)).2).2)) == 4) == ((1 : Int) == 4)))), .own 1 0, .v (.int .i64 1), .v (.int .i64 (IntKind.i64.wrap (s.i + 1)))], [⟨[.v (.string s.c_Name), .v (.int .i64 s.c_At), .v (.int .i64 s.c_Phases), .v (.int .i64 s.c_Min), .v (.int .i64 s.c_Max), .v (.int .i64 s.c_Step), .v (.int .i64 s.c_Fallback), .v (.int .i64 s.c_Owner)], 23⟩, ⟨[.v (.int .i64 (nP s.c_Phases s.c_Min s.c_Max s.c_Step s.c_Fallback s.s_Phase s.s_Amps s.s_Left s.s_Welded (((gx (e := tEv) s.l s.i)).1) ((((gx (e := tEv) s.l s.i)).2).1) ((((gx (e := tEv) s.l s.i)).2).2))), .v (.int .i64 (nA s.c_Phases s.c_Min s.c_Max s.c_Step s.c_Fallback s.s_Phase s.s_Amps s.s_Left s.s_Welded (((gx (e := tEv) s.l s.i)).1) ((((gx (e := tEv) s.l s.i)).2).1) ((((gx (e := tEv) s.l s.i)).2).2))), .v (.int .i64 (nL s.c_Phases s.c_Min s.c_Max s.c_Step s.c_Fallback s.s_Phase s.s_Amps s.s_Left s.s_Welded (((gx (e := tEv) s.l s.i)).1) ((((gx (e := tEv) s.l s.i)).2).1) ((((gx (e := tEv) s.l s.i)).2).2))), .v (.bool (nW s.c_Phases s.c_Min s.c_Max s.c_Step s.c_Fallback s.s_Phase s.s_Amps s.s_Left s.s_Welded (((gx (e := tEv) s.l s.i)).1) ((((gx (e := tEv) s.l s.i)).2).1) ((((gx (e := tEv) s.l s.i)).2).2)))], 25⟩], true⟩)) (.ok (⟨.normal, 87, [.xl tEv s.l, .own 0 0, .v (.bool (s.up_ && (((nP s.c_Phases s.c_Min s.c_Max s.c_Step s.c_Fallback s.s_Phase s.s_Amps s.s_Left s.s_Welded (((gx (e := tEv) s.l s.i)).1) ((((gx (e := tEv) s.l s.i)).2).1) ((((gx (e := tEv) s.l s.i)).2).2)) == 4) == ((0 : Int) == 4)))), .own 1 0, .v (.int .i64 0), .v (.int .i64 (IntKind.i64.wrap (s.i + 1)))], [⟨[.v (.string s.c_Name), .v (.int .i64 s.c_At), .v (.int .i64 s.c_Phases), .v (.int .i64 s.c_Min), .v (.int .i64 s.c_Max), .v (.int .i64 s.c_Step), .v (.int .i64 s.c_Fallback), .v (.int .i64 s.c_Owner)], 23⟩, ⟨[.v (.int .i64 (nP s.c_Phases s.c_Min s.c_Max s.c_Step s.c_Fallback s.s_Phase s.s_Amps s.s_Left s.s_Welded (((gx (e := tEv) s.l s.i)).1) ((((gx (e := tEv) s.l s.i)).2).1) ((((gx (e := tEv) s.l s.i)).2).2))), .v (.int .i64 (nA s.c_Phases s.c_Min s.c_Max s.c_Step s.c_Fallback s.s_Phase s.s_Amps s.s_Left s.s_Welded (((gx (e := tEv) s.l s.i)).1) ((((gx (e := tEv) s.l s.i)).2).1) ((((gx (e := tEv) s.l s.i)).2).2))), .v (.int .i64 (nL s.c_Phases s.c_Min s.c_Max s.c_Step s.c_Fallback s.s_Phase s.s_Amps s.s_Left s.s_Welded (((gx (e := tEv) s.l s.i)).1) ((((gx (e := tEv) s.l s.i)).2).1) ((((gx (e := tEv) s.l s.i)).2).2))), .v (.bool (nW s.c_Phases s.c_Min s.c_Max s.c_Step s.c_Fallback s.s_Phase s.s_Amps s.s_Left s.s_Welded (((gx (e := tEv) s.l s.i)).1) ((((gx (e := tEv) s.l s.i)).2).1) ((((gx (e := tEv) s.l s.i)).2).2)))], 25⟩], true⟩))) (.br ((((gx (e := tEv) s.l s.i)).1) == 9) (.br ((nP s.c_Phases s.c_Min s.c_Max s.c_Step s.c_Fallback s.s_Phase s.s_Amps s.s_Left s.s_Welded (((gx (e := tEv) s.l s.i)).1) ((((gx (e := tEv) s.l s.i)).2).1) ((((gx (e := tEv) s.l s.i)).2).2)) == 1) (.ok (⟨.normal, 87, [.xl tEv s.l, .own 0 0, .v (.bool (s.up_ && (((nP s.c_Phases s.c_Min s.c_Max s.c_Step s.c_Fallback s.s_Phase s.s_Amps s.s_Left s.s_Welded (((gx (e := tEv) s.l s.i)).1) ((((gx (e := tEv) s.l s.i)).2).1) ((((gx (e := tEv) s.l s.i)).2).2)) == 4) == ((1 : Int) == 4)))), .own 1 0, .v (.int .i64 1), .v (.int .i64 (IntKind.i64.wrap (s.i + 1)))], [⟨[.v (.string s.c_Name), .v (.int .i64 s.c_At), .v (.int .i64 s.c_Phases), .v (.int .i64 s.c_Min), .v (.int .i64 s.c_Max), .v (.int .i64 s.c_Step), .v (.int .i64 s.c_Fallback), .v (.int .i64 s.c_Owner)], 23⟩, ⟨[.v (.int .i64 (nP s.c_Phases s.c_Min s.c_Max s.c_Step s.c_Fallback s.s_Phase s.s_Amps s.s_Left s.s_Welded (((gx (e := tEv) s.l s.i)).1) ((((gx (e := tEv) s.l s.i)).2).1) ((((gx (e := tEv) s.l s.i)).2).2))), .v (.int .i64 (nA s.c_Phases s.c_Min s.c_Max s.c_Step s.c_Fallback s.s_Phase s.s_Amps s.s_Left s.s_Welded (((gx (e := tEv) s.l s.i)).1) ((((gx (e := tEv) s.l s.i)).2).1) ((((gx (e := tEv) s.l s.i)).2).2))), .v (.int .i64 (nL s.c_Phases s.c_Min s.c_Max s.c_Step s.c_Fallback s.s_Phase s.s_Amps s.s_Left s.s_Welded (((gx (e := tEv) s.l s.i)).1) ((((gx (e := tEv) s.l s.i)).2).1) ((((gx (e := tEv) s.l s.i)).2).2))), .v (.bool (nW s.c_Phases s.c_Min s.c_Max s.c_Step s.c_Fallback s.s_Phase s.s_Amps s.s_Left s.s_Welded (((gx (e := tEv) s.l s.i)).1) ((((gx (e := tEv) s.l s.i)).2).1) ((((gx (e := tEv) s.l s.i)).2).2)))], 25⟩], true⟩)) (.ok (⟨.normal, 87, [.xl tEv s.l, .own 0 0, .v (.bool (s.up_ && (((nP s.c_Phases s.c_Min s.c_Max s.c_Step s.c_Fallback s.s_Phase s.s_Amps s.s_Left s.s_Welded (((gx (e := tEv) s.l s.i)).1) ((((gx (e := tEv) s.l s.i)).2).1) ((((gx (e := tEv) s.l s.i)).2).2)) == 4) == ((0 : Int) == 4)))), .own 1 0, .v (.int .i64 0), .v (.int .i64 (IntKind.i64.wrap (s.i + 1)))], [⟨[.v (.string s.c_Name), .v (.int .i64 s.c_At), .v (.int .i64 s.c_Phases), .v (.int .i64 s.c_Min), .v (.int .i64 s.c_Max), .v (.int .i64 s.c_Step), .v (.int .i64 s.c_Fallback), .v (.int .i64 s.c_Owner)], 23⟩, ⟨[.v (.int .i64 (nP s.c_Phases s.c_Min s.c_Max s.c_Step s.c_Fallback s.s_Phase s.s_Amps s.s_Left s.s_Welded (((gx (e := tEv) s.l s.i)).1) ((((gx (e := tEv) s.l s.i)).2).1) ((((gx (e := tEv) s.l s.i)).2).2))), .v (.int .i64 (nA s.c_Phases s.c_Min s.c_Max s.c_Step s.c_Fallback s.s_Phase s.s_Amps s.s_Left s.s_Welded (((gx (e := tEv) s.l s.i)).1) ((((gx (e := tEv) s.l s.i)).2).1) ((((gx (e := tEv) s.l s.i)).2).2))), .v (.int .i64 (nL s.c_Phases s.c_Min s.c_Max s.c_Step s.c_Fallback s.s_Phase s.s_Amps s.s_Left s.s_Welded (((gx (e := tEv) s.l s.i)).1) ((((gx (e := tEv) s.l s.i)).2).1) ((((gx (e := tEv) s.l s.i)).2).2))), .v (.bool (nW s.c_Phases s.c_Min s.c_Max s.c_Step s.c_Fallback s.s_Phase s.s_Amps s.s_Left s.s_Welded (((gx (e := tEv) s.l s.i)).1) ((((gx (e := tEv) s.l s.i)).2).1) ((((gx (e := tEv) s.l s.i)).2).2)))], 25⟩], true⟩))) (.ok (⟨.normal, 87, [.xl tEv s.l, .own 0 0, .v (.bool (s.up_ && (((nP s.c_Phases s.c_Min s.c_Max s.c_Step s.c_Fallback s.s_Phase s.s_Amps s.s_Left s.s_Welded (((gx (e := tEv) s.l s.i)).1) ((((gx (e := tEv) s.l s.i)).2).1) ((((gx (e := tEv) s.l s.i)).2).2)) == 4) == (s.done == 4)))), .own 1 0, .v (.int .i64 s.done), .v (.int .i64 (IntKind.i64.wrap (s.i + 1)))], [⟨[.v (.string s.c_Name), .v (.int .i64 s.c_At), .v (.int .i64 s.c_Phases), .v (.int .i64 s.c_Min), .v (.int .i64 s.c_Max), .v (.int .i64 s.c_Step), .v (.int .i64 s.c_Fallback), .v (.int .i64 s.c_Owner)], 23⟩, ⟨[.v (.int .i64 (nP s.c_Phases s.c_Min s.c_Max s.c_Step s.c_Fallback s.s_Phase s.s_Amps s.s_Left s.s_Welded (((gx (e := tEv) s.l s.i)).1) ((((gx (e := tEv) s.l s.i)).2).1) ((((gx (e := tEv) s.l s.i)).2).2))), .v (.int .i64 (nA s.c_Phases s.c_Min s.c_Max s.c_Step s.c_Fallback s.s_Phase s.s_Amps s.s_Left s.s_Welded (((gx (e := tEv) s.l s.i)).1) ((((gx (e := tEv) s.l s.i)).2).1) ((((gx (e := tEv) s.l s.i)).2).2))), .v (.int .i64 (nL s.c_Phases s.c_Min s.c_Max s.c_Step s.c_Fallback s.s_Phase s.s_Amps s.s_Left s.s_Welded (((gx (e := tEv) s.l s.i)).1) ((((gx (e := tEv) s.l s.i)).2).1) ((((gx (e := tEv) s.l s.i)).2).2))), .v (.bool (nW s.c_Phases s.c_Min s.c_Max s.c_Step s.c_Fallback s.s_Phase s.s_Amps s.s_Left s.s_Welded (((gx (e := tEv) s.l s.i)).1) ((((gx (e := tEv) s.l s.i)).2).1) ((((gx (e := tEv) s.l s.i)).2).2)))], 25⟩], true⟩)))))))))))) (.ok (⟨.exit 0, 87, [.xl tEv s.l, .own 0 0, .v (.bool s.up_), .own 1 0, .v (.int .i64 s.done), .v (.int .i64 s.i)], [⟨[.v (.string s.c_Name), .v (.int .i64 s.c_At), .v (.int .i64 s.c_Phases), .v (.int .i64 s.c_Min), .v (.int .i64 s.c_Max), .v (.int .i64 s.c_Step), .v (.int .i64 s.c_Fallback), .v (.int .i64 s.c_Owner)], 23⟩, ⟨[.v (.int .i64 s.s_Phase), .v (.int .i64 s.s_Amps), .v (.int .i64 s.s_Left), .v (.bool s.s_Welded)], 25⟩], true⟩)) := by kernel_rfl
theorem stp_ord (s : L_ord) (hI : I_ord s) : AllT (fun v => v = rdV 87 A_ord B_ord (f_ord s)) ((codex Tryd.prog glC (specsOf [(10, S_head), (11, S_step), (17, S_start), (18, S_rch)]) noK noLoops body_ord (frameOf 87 [1, 2, 5, 7, 8, 9] (A_ord s)) (B_ord s)).bind (fun q => .ok (viewQ [1, 2, 5, 7, 8, 9] 2 q))) := by
  constructor
  rw [nfl_ord]
  unfold f_ord fa_ord
  exact
    stp_br (fun c1 =>
      ⟨by (obtain ⟨_, _, h1, h2, _⟩ := hI; simp at c1; omega),
        stp_br (fun c2 =>
          rfl) (fun c2 =>
          ⟨by (obtain ⟨_, _, h1, h2, _⟩ := hI; simp at c1; omega),
            stp_br (fun c3 =>
              rfl) (fun c3 =>
              stp_br (fun c4 =>
                stp_br (fun c5 =>
                  rfl) (fun c5 =>
                  rfl)) (fun c4 =>
                stp_br (fun c6 =>
                  stp_br (fun c7 =>
                    ⟨by (obtain ⟨_, _, h1, h2, _⟩ := hI; simp at c1; omega),
                      stp_br (fun c8 =>
                        rfl) (fun c8 =>
                        rfl)⟩) (fun c7 =>
                    rfl)) (fun c6 =>
                  stp_br (fun c9 =>
                    stp_br (fun c10 =>
                      rfl) (fun c10 =>
                      rfl)) (fun c9 =>
                    stp_br (fun c11 =>
                      stp_br (fun c12 =>
                        rfl) (fun c12 =>
                        rfl)) (fun c11 =>
                      stp_br (fun c13 =>
                        stp_br (fun c14 =>
                          rfl) (fun c14 =>
                          rfl)) (fun c13 =>
                        stp_br (fun c15 =>
                          stp_br (fun c16 =>
                            rfl) (fun c16 =>
                            rfl)) (fun c15 =>
                          rfl)))))))⟩)⟩) (fun c1 =>
      rfl)
theorem ord_end (s : L_ord) (hE : E_ord s) : ∃ s', I_ord s' ∧ f_ord s' = .stop (exn_ord s) (run_ord s) := by rw [← run_ord_eq]; exact runW_stop ord_d (mu_ord s + 1) s (ord_E s hE) (Nat.lt_succ_self _)
theorem ord_same (s : L_ord) (vE : Int) (vg : Int × Int × Int) (vP : Int) (vA : Int) (vL : Int) (vW : Bool) : allR (fun _ => True) (fun _ s' => s = s') (fa_ord s vE vg vP vA vL vW) := by
  unfold fa_ord
  exact allR_ite (fun c1 => allR_ite (fun c2 => trivial) (fun c2 => allR_ite (fun c3 => trivial) (fun c3 => allR_ite (fun c4 => allR_ite (fun c5 => trivial) (fun c5 => trivial)) (fun c4 => allR_ite (fun c6 => allR_ite (fun c7 => allR_ite (fun c8 => trivial) (fun c8 => trivial)) (fun c7 => trivial)) (fun c6 => allR_ite (fun c9 => allR_ite (fun c10 => trivial) (fun c10 => trivial)) (fun c9 => allR_ite (fun c11 => allR_ite (fun c12 => trivial) (fun c12 => trivial)) (fun c11 => allR_ite (fun c13 => allR_ite (fun c14 => trivial) (fun c14 => trivial)) (fun c13 => allR_ite (fun c15 => allR_ite (fun c16 => trivial) (fun c16 => trivial)) (fun c15 => trivial))))))))) (fun c1 => rfl)
theorem ord_inv (s : L_ord) (hE : E_ord s) : I_ord (run_ord s) ∧ f_ord (run_ord s) = .stop (exn_ord s) (run_ord s) := by
  obtain ⟨s', hI, hf⟩ := ord_end s hE
  have hs := allR_stop (ord_same _ _ _ _ _ _ _) hf
  subst hs
  exact ⟨hI, hf⟩
theorem snd_ord : Sound Tryd.prog glC (.loop body_ord) (loopT 87 2 [1, 2, 5, 7, 8, 9] sel_ord out_ord) :=
  loop_view 87 2 [1, 2, 5, 7, 8, 9] A_ord B_ord I_ord E_ord mu_ord f_ord sel_ord out_ord (code_sound (Γ := specsOf [(10, S_head), (11, S_step), (17, S_start), (18, S_rch)]) (K := noK) (L := noLoops) (specs_ok (l := [(10, S_head), (11, S_step), (17, S_start), (18, S_rch)]) ⟨v_head, v_step, v_start, v_rch, trivial⟩) noK_sound body_ord (fun b hb => by rw [show loopsIn body_ord = [] by kernel_rfl] at hb; cases hb))
    sel_ord_ok ord_E (fun s _ => ⟨rfl, rfl⟩) ord_d (fun s x s' hf => by have := ord_ex s x s' hf; intro h0; subst h0; simp at this) stp_ord (fun s hE => by
      obtain ⟨s', _, h2⟩ := ord_end s hE
      have h3 : exn_ord s = .exit 0 := ord_ex _ _ _ h2
      unfold out_ord
      rw [run_ord_eq]
      simp only [T.all, ← h3]
      rfl)
theorem ord_fin (s : L_ord) (hE : E_ord s) : (run_ord s).up_ = true := (ord_inv s hE).1.2.1
def S_ordl : List LV → T LV
  | [.v (.agg ⟨[.string nm, .int .i64 at_, .int .i64 ph, .int .i64 mn, .int .i64 mx, .int .i64 st, .int .i64 fb, .int .i64 ow]⟩), .xl (.pair (.int .i64) (.pair (.int .i64) (.int .i64))) l] => .ok (.v (.bool true))
  | _ => .no
theorem nf_ordl (nm : ByteArray) (at_ ph mn mx st fb ow : Int) (l : List (Int × (Int × Int))) : funx Tryd.prog glC (specsOf [(10, S_head), (11, S_step), (17, S_start), (18, S_rch)]) noK (fun i => if i = 8 then loopT 87 2 [1, 2, 5, 7, 8, 9] sel_ord out_ord else noLoops i) Tryd.f4 [.v (.agg #[.string nm, .int .i64 at_, .int .i64 ph, .int .i64 mn, .int .i64 mx, .int .i64 st, .int .i64 fb, .int .i64 ow]), .xl tEv l] = .br ((!(chB ph mn mx st fb)) || (decide (((List.length l : Int)) > 100))) (.ok (.v (.bool true))) (.req (E_ord (⟨l, true, (0 : Int), (0 : Int), nm, at_, ph, mn, mx, st, fb, ow, (0 : Int), (0 : Int), (0 : Int), false⟩ : L_ord)) (.ok (.v (.bool (((run_ord (⟨l, true, (0 : Int), (0 : Int), nm, at_, ph, mn, mx, st, fb, ow, (0 : Int), (0 : Int), (0 : Int), false⟩ : L_ord)).up_)))))) := by kernel_rfl
theorem v_ordl : Valid Tryd.prog glC 4 S_ordl := valid_of Tryd.func4 rfl (specs_ok (l := [(10, S_head), (11, S_step), (17, S_start), (18, S_rch)]) ⟨v_head, v_step, v_start, v_rch, trivial⟩) noK_sound (L := (fun i => if i = 8 then loopT 87 2 [1, 2, 5, 7, 8, 9] sel_ord out_ord else noLoops i)) (fun b hb => by
  rw [show loopsIn _ = [body_ord] by kernel_rfl] at hb
  simp only [List.mem_cons, List.not_mem_nil, or_false] at hb
  subst hb
  exact snd_ord) (fun args lv h => by
  unfold S_ordl at h
  split at h
  · rw [nf_ordl]
    rename_i nm at_ ph mn mx st fb ow l
    obtain rfl := h
    refine ⟨fun _ => rfl, fun hk => ?_⟩
    simp only [Bool.or_eq_false_iff, Bool.not_eq_false', decide_eq_false_iff_not] at hk
    have hc := chB_iff.1 hk.1
    have hst : stP ph mn mx st fb 0 0 0 false := by
      unfold stP
      refine ⟨hk.1, by omega, by omega, by omega, by omega, by omega, by omega, fun _ => rfl, fun h => by cases h⟩
    have hE : E_ord ⟨l, true, (0 : Int), (0 : Int), nm, at_, ph, mn, mx, st, fb, ow, (0 : Int), (0 : Int), (0 : Int), false⟩ := ⟨⟨hst, by simp only; omega⟩, rfl, rfl, rfl⟩
    exact ⟨hE, congrArg (fun z => LV.v (.bool z)) (ord_fin _ hE)⟩
  · cases h)
end Go.Proofs.YtiejmafkbfiekaaDoor
