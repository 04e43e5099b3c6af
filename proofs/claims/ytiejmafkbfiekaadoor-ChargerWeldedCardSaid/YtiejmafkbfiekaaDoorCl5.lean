/- ChargerWelded: what it computes. -/
import Derived.Test.YtiejmafkbfiekaaDoorCq
namespace Go.Proofs.YtiejmafkbfiekaaDoor
open Go.Sx
structure L_wel where
  l : List (Int × (Int × Int))
  up_ : Bool
  was : Bool
  i : Int
  c_Name : ByteArray
  c_At : Int
  c_Phases : Int
  c_Min : Int
  c_Max : Int
  c_Step : Int
  c_Fallback : Int
  c_Owner : Int
  s_Phase : Int
  s_Amps : Int
  s_Left : Int
  s_Welded : Bool
def A_wel (s : L_wel) : List LV := [.xl tEv s.l, .own 0 0, .own 1 0, .v (.bool s.up_), .v (.bool s.was), .v (.int .i64 s.i)]
def B_wel (s : L_wel) : List Blk := [⟨[.v (.string s.c_Name), .v (.int .i64 s.c_At), .v (.int .i64 s.c_Phases), .v (.int .i64 s.c_Min), .v (.int .i64 s.c_Max), .v (.int .i64 s.c_Step), .v (.int .i64 s.c_Fallback), .v (.int .i64 s.c_Owner)], 23⟩, ⟨[.v (.int .i64 s.s_Phase), .v (.int .i64 s.s_Amps), .v (.int .i64 s.s_Left), .v (.bool s.s_Welded)], 25⟩]
noncomputable def body_wel : Code := ((loopsIn (Tryd.f7.body.getD .skip))[0]?).getD .skip
def fa_wel (s : L_wel) (vE : Int) (vW : Bool) (vF : Int) (vP : Int) (vA : Int) (vL : Int) (vg : Int × Int × Int) : Rd L_wel :=
  if decide (s.i < ((List.length s.l : Int))) then
    if vE != 0 then
      .next { s with i := (IntKind.i64.wrap (s.i + 1)) }
    else
      if s.was then
        .next { s with up_ := (s.up_ && ((vW == true) && ((!true) || ((vF == s.c_Max) && (vP == 5))))), was := true, i := (IntKind.i64.wrap (s.i + 1)), s_Phase := vP, s_Amps := vA, s_Left := vL, s_Welded := vW }
      else
        if ((vg).1) == 6 then
          .next { s with up_ := (s.up_ && ((vW == ((((vg).2).1) == 1)) && ((!((((vg).2).1) == 1)) || ((vF == s.c_Max) && (vP == 5))))), was := ((((vg).2).1) == 1), i := (IntKind.i64.wrap (s.i + 1)), s_Phase := vP, s_Amps := vA, s_Left := vL, s_Welded := vW }
        else
          .next { s with up_ := (s.up_ && ((vW == false) && ((!false) || ((vF == s.c_Max) && (vP == 5))))), was := false, i := (IntKind.i64.wrap (s.i + 1)), s_Phase := vP, s_Amps := vA, s_Left := vL, s_Welded := vW }
  else
    .stop (.exit 0) s
def f_wel (s : L_wel) : Rd L_wel := fa_wel s (nE s.c_Phases s.c_Min s.c_Max s.c_Step s.c_Fallback s.s_Phase s.s_Amps s.s_Left s.s_Welded (((gx (e := tEv) s.l s.i)).1) ((((gx (e := tEv) s.l s.i)).2).1) ((((gx (e := tEv) s.l s.i)).2).2)) (nW s.c_Phases s.c_Min s.c_Max s.c_Step s.c_Fallback s.s_Phase s.s_Amps s.s_Left s.s_Welded (((gx (e := tEv) s.l s.i)).1) ((((gx (e := tEv) s.l s.i)).2).1) ((((gx (e := tEv) s.l s.i)).2).2)) (alF s.c_Phases s.c_Min s.c_Max s.c_Step s.c_Fallback (nP s.c_Phases s.c_Min s.c_Max s.c_Step s.c_Fallback s.s_Phase s.s_Amps s.s_Left s.s_Welded (((gx (e := tEv) s.l s.i)).1) ((((gx (e := tEv) s.l s.i)).2).1) ((((gx (e := tEv) s.l s.i)).2).2)) (nA s.c_Phases s.c_Min s.c_Max s.c_Step s.c_Fallback s.s_Phase s.s_Amps s.s_Left s.s_Welded (((gx (e := tEv) s.l s.i)).1) ((((gx (e := tEv) s.l s.i)).2).1) ((((gx (e := tEv) s.l s.i)).2).2)) (nL s.c_Phases s.c_Min s.c_Max s.c_Step s.c_Fallback s.s_Phase s.s_Amps s.s_Left s.s_Welded (((gx (e := tEv) s.l s.i)).1) ((((gx (e := tEv) s.l s.i)).2).1) ((((gx (e := tEv) s.l s.i)).2).2)) (nW s.c_Phases s.c_Min s.c_Max s.c_Step s.c_Fallback s.s_Phase s.s_Amps s.s_Left s.s_Welded (((gx (e := tEv) s.l s.i)).1) ((((gx (e := tEv) s.l s.i)).2).1) ((((gx (e := tEv) s.l s.i)).2).2))) (nP s.c_Phases s.c_Min s.c_Max s.c_Step s.c_Fallback s.s_Phase s.s_Amps s.s_Left s.s_Welded (((gx (e := tEv) s.l s.i)).1) ((((gx (e := tEv) s.l s.i)).2).1) ((((gx (e := tEv) s.l s.i)).2).2)) (nA s.c_Phases s.c_Min s.c_Max s.c_Step s.c_Fallback s.s_Phase s.s_Amps s.s_Left s.s_Welded (((gx (e := tEv) s.l s.i)).1) ((((gx (e := tEv) s.l s.i)).2).1) ((((gx (e := tEv) s.l s.i)).2).2)) (nL s.c_Phases s.c_Min s.c_Max s.c_Step s.c_Fallback s.s_Phase s.s_Amps s.s_Left s.s_Welded (((gx (e := tEv) s.l s.i)).1) ((((gx (e := tEv) s.l s.i)).2).1) ((((gx (e := tEv) s.l s.i)).2).2)) (gx (e := tEv) s.l s.i)
def P_wel (s : L_wel) := ((), s.l, s.c_Name, s.c_At, s.c_Phases, s.c_Min, s.c_Max, s.c_Step, s.c_Fallback, s.c_Owner)
theorem wel_exa (s : L_wel) (vE : Int) (vW : Bool) (vF : Int) (vP : Int) (vA : Int) (vL : Int) (vg : Int × Int × Int) : allR (fun _ => True) (fun x _ => x = .exit 0) (fa_wel s vE vW vF vP vA vL vg) := by
  unfold fa_wel
  exact allR_ite (fun c1 => allR_ite (fun c2 => trivial) (fun c2 => allR_ite (fun c3 => trivial) (fun c3 => allR_ite (fun c4 => trivial) (fun c4 => trivial)))) (fun c1 => rfl)
theorem wel_ex : ∀ s x s', f_wel s = .stop x s' → x = .exit 0 := fun s x s' h => allR_stop (wel_exa s _ _ _ _ _ _ _) h
theorem wel_ka (s : L_wel) (vE : Int) (vW : Bool) (vF : Int) (vP : Int) (vA : Int) (vL : Int) (vg : Int × Int × Int) : allR (fun s' => P_wel s' = P_wel s) (fun _ s' => P_wel s' = P_wel s) (fa_wel s vE vW vF vP vA vL vg) := by
  unfold fa_wel
  exact allR_ite (fun c1 => allR_ite (fun c2 => rfl) (fun c2 => allR_ite (fun c3 => rfl) (fun c3 => allR_ite (fun c4 => rfl) (fun c4 => rfl)))) (fun c1 => rfl)
def R_wel (s : L_wel) : Prop := stP s.c_Phases s.c_Min s.c_Max s.c_Step s.c_Fallback s.s_Phase s.s_Amps s.s_Left s.s_Welded ∧ (s.l.length : Int) ≤ 100
def E_wel (s : L_wel) : Prop := R_wel s ∧ s.up_ = true ∧ s.i = 0 ∧ s.was = s.s_Welded
def I_wel (s : L_wel) : Prop := R_wel s ∧ s.up_ = true ∧ 0 ≤ s.i ∧ s.i ≤ (s.l.length : Int) ∧ s.was = s.s_Welded
def mu_wel (s : L_wel) : Nat := ((s.l.length : Int) - s.i).toNat
theorem wel_E : ∀ s, E_wel s → I_wel s := by
  intro s h
  obtain ⟨h1, h2, h3, h4⟩ := h
  exact ⟨h1, h2, by omega, by omega, h4⟩
theorem wel_da (s : L_wel) (hI : I_wel s) (vE : Int) (vW : Bool) (vF : Int) (vP : Int) (vA : Int) (vL : Int) (vg : Int × Int × Int) (hvE : nE s.c_Phases s.c_Min s.c_Max s.c_Step s.c_Fallback s.s_Phase s.s_Amps s.s_Left s.s_Welded vg.1 vg.2.1 vg.2.2 = vE) (hvW : nW s.c_Phases s.c_Min s.c_Max s.c_Step s.c_Fallback s.s_Phase s.s_Amps s.s_Left s.s_Welded vg.1 vg.2.1 vg.2.2 = vW) (hvP : nP s.c_Phases s.c_Min s.c_Max s.c_Step s.c_Fallback s.s_Phase s.s_Amps s.s_Left s.s_Welded vg.1 vg.2.1 vg.2.2 = vP) (hvA : nA s.c_Phases s.c_Min s.c_Max s.c_Step s.c_Fallback s.s_Phase s.s_Amps s.s_Left s.s_Welded vg.1 vg.2.1 vg.2.2 = vA) (hvL : nL s.c_Phases s.c_Min s.c_Max s.c_Step s.c_Fallback s.s_Phase s.s_Amps s.s_Left s.s_Welded vg.1 vg.2.1 vg.2.2 = vL) (hvF : alF s.c_Phases s.c_Min s.c_Max s.c_Step s.c_Fallback vP vA vL vW = vF) : allR (fun s' => I_wel s' ∧ mu_wel s' < mu_wel s) (fun _ _ => True) (fa_wel s vE vW vF vP vA vL vg) := by
  obtain ⟨⟨hst, hlen⟩, hu, hi0, hi1, hJ⟩ := hI
  obtain ⟨ek, en, em⟩ := vg
  simp only at *
  unfold fa_wel
  refine allR_ite (fun hi => ?_) (fun _ => trivial)
  have hi : s.i < (s.l.length : Int) := by simpa using hi
  rw [wrapS (x := s.i + 1) (by omega) (by omega)]
  refine allR_ite (fun _ => ?_) (fun he => ?_)
  · exact ⟨⟨⟨hst, hlen⟩, hu, by simp only; omega, by simp only; omega, hJ⟩, by simp only [mu_wel]; omega⟩
  have he : vE = 0 := by simpa using he
  rw [he] at hvE
  obtain ⟨e1, e2, e3, e4⟩ := step_eqs hvE
  rw [hvP] at e1
  rw [hvA] at e2
  rw [hvL] at e3
  rw [hvW] at e4
  have hn := st_next hvE
  obtain ⟨a1, a2, a3, a4, a5⟩ := nE_ok hvE
  subst e1 e2 e3 e4
  have hmu : ∀ q : L_wel, q.i = s.i + 1 → q.l = s.l → mu_wel q < mu_wel s := fun q h1 h2 => by simp only [mu_wel, h1, h2]; omega
  have hF := fun (e : cW s.s_Welded ek en = true) => welded_allowed (show stP _ _ _ _ _ _ _ _ true from e ▸ hn)
  have hF2 : cW s.s_Welded ek en = true → vF = s.c_Max ∧ phF s.s_Phase s.s_Welded ek en = 5 := fun e => by
    have := hF e
    rw [e] at hvF
    rw [hvF] at this
    exact this
  have fin : ∀ (q : L_wel) (d : Bool), q.l = s.l → q.i = s.i + 1 → R_wel q → q.up_ = (s.up_ && ((cW s.s_Welded ek en == d) && (!d || ((vF == s.c_Max) && (phF s.s_Phase s.s_Welded ek en == 5))))) → q.was = d → q.s_Welded = cW s.s_Welded ek en → d = cW s.s_Welded ek en → I_wel q ∧ mu_wel q < mu_wel s := fun q d h1 h2 h3 h4 h5 h6 h7 => by
    refine ⟨⟨h3, ?_, by omega, by rw [h1, h2]; omega, by rw [h5, h6, h7]⟩, hmu q h2 h1⟩
    rw [h4, hu, h7]
    cases hw : cW s.s_Welded ek en with
    | false => simp
    | true => obtain ⟨b1, b2⟩ := hF2 hw; simp [b1, b2]
  refine allR_ite (fun c1 => ?_) (fun c1 => allR_ite (fun c2 => ?_) (fun c2 => ?_))
  · refine fin _ true rfl rfl ⟨hn, hlen⟩ rfl rfl rfl ?_
    rw [hJ] at c1
    simp [cW, c1]
  · refine fin _ (en == 1) rfl rfl ⟨hn, hlen⟩ rfl rfl rfl ?_
    rw [hJ] at c1
    have c2 : ek = 6 := by simpa using c2
    simp [cW, c1, c2]
  · refine fin _ false rfl rfl ⟨hn, hlen⟩ rfl rfl rfl ?_
    rw [hJ] at c1
    have c2 : ek ≠ 6 := by simpa using c2
    simp [cW, c1, c2]
theorem wel_d : ∀ s s', I_wel s → f_wel s = .next s' → I_wel s' ∧ mu_wel s' < mu_wel s := fun s s' hI h => allR_next (wel_da s hI _ _ _ _ _ _ _ rfl rfl rfl rfl rfl rfl) h
def sel_wel : List LV → List Blk → T L_wel
  | [.xl (.pair (.int .i64) (.pair (.int .i64) (.int .i64))) l, .own 0 0, .own 1 0, .v (.bool up_), .v (.bool was), .v (.int .i64 i)], [⟨[.v (.string c_Name), .v (.int .i64 c_At), .v (.int .i64 c_Phases), .v (.int .i64 c_Min), .v (.int .i64 c_Max), .v (.int .i64 c_Step), .v (.int .i64 c_Fallback), .v (.int .i64 c_Owner)], 23⟩, ⟨[.v (.int .i64 s_Phase), .v (.int .i64 s_Amps), .v (.int .i64 s_Left), .v (.bool s_Welded)], 25⟩] => .req (E_wel ⟨l, up_, was, i, c_Name, c_At, c_Phases, c_Min, c_Max, c_Step, c_Fallback, c_Owner, s_Phase, s_Amps, s_Left, s_Welded⟩) (.ok ⟨l, up_, was, i, c_Name, c_At, c_Phases, c_Min, c_Max, c_Step, c_Fallback, c_Owner, s_Phase, s_Amps, s_Left, s_Welded⟩)
  | _, _ => .no
theorem sel_wel_ok : ∀ vals blks s, (sel_wel vals blks).all (fun x => x = s) → E_wel s ∧ vals = A_wel s ∧ blks = B_wel s := by
  intro vals blks s h
  unfold sel_wel at h
  split at h
  · obtain ⟨h1, rfl⟩ := h
    exact ⟨h1, rfl, rfl⟩
  · cases h
def run_wel (s : L_wel) : L_wel := { (runW f_wel (mu_wel s + 1) s).2 with l := s.l, c_Name := s.c_Name, c_At := s.c_At, c_Phases := s.c_Phases, c_Min := s.c_Min, c_Max := s.c_Max, c_Step := s.c_Step, c_Fallback := s.c_Fallback, c_Owner := s.c_Owner }
theorem run_wel_eq (s : L_wel) : (runW f_wel (mu_wel s + 1) s).2 = run_wel s := by
  have hk := runW_keep (f := f_wel) P_wel (fun s s' hf => allR_next (wel_ka s _ _ _ _ _ _ _) hf) (fun s x s' hf => allR_stop (wel_ka s _ _ _ _ _ _ _) hf) (mu_wel s + 1) s
  unfold run_wel
  generalize (runW f_wel (mu_wel s + 1) s).2 = r at *
  cases r
  simp only [P_wel, Prod.mk.injEq, true_and] at hk
  simp only [L_wel.mk.injEq, hk, and_self]
def exn_wel (s : L_wel) : Ex := (runW f_wel (mu_wel s + 1) s).1
def out_wel (s : L_wel) : T (Ex × List LV × List Blk) := .ok (.exit 0, frameOf 88 [2, 3, 4, 7, 9, 10] (A_wel (run_wel s)), B_wel (run_wel s))
theorem nfl_wel (s : L_wel) : (codex Tryd.prog glC (specsOf [(10, S_head), (11, S_step), (14, S_rv), (15, S_alw)]) noK noLoops body_wel (frameOf 88 [2, 3, 4, 7, 9, 10] (A_wel s)) (B_wel s)).bind (fun q => .ok (viewQ [2, 3, 4, 7, 9, 10] 2 q)) = .br (decide (s.i < ((List.length s.l : Int)))) (.req (0 ≤ s.i ∧ s.i < (List.length s.l : Int)) (.br ((nE s.c_Phases s.c_Min s.c_Max s.c_Step s.c_Fallback s.s_Phase s.s_Amps s.s_Left s.s_Welded (((gx (e := tEv) s.l s.i)).1) ((((gx (e := tEv) s.l s.i)).2).1) ((((gx (e := tEv) s.l s.i)).2).2)) != 0) (.ok (⟨.normal, 88, [.xl tEv s.l, .own 0 0, .own 1 0, .v (.bool s.up_), .v (.bool s.was), .v (.int .i64 (IntKind.i64.wrap (s.i + 1)))], [⟨[.v (.string s.c_Name), .v (.int .i64 s.c_At), .v (.int .i64 s.c_Phases), .v (.int .i64 s.c_Min), .v (.int .i64 s.c_Max), .v (.int .i64 s.c_Step), .v (.int .i64 s.c_Fallback), .v (.int .i64 s.c_Owner)], 23⟩, ⟨[.v (.int .i64 s.s_Phase), .v (.int .i64 s.s_Amps), .v (.int .i64 s.s_Left), .v (.bool s.s_Welded)], 25⟩], true⟩)) (.br s.was (.ok (⟨.normal, 88, [.xl tEv s.l, .own 0 0, .own 1 0, .v (.bool (s.up_ && (((nW s.c_Phases s.c_Min s.c_Max s.c_Step s.c_Fallback s.s_Phase s.s_Amps s.s_Left s.s_Welded (((gx (e := tEv) s.l s.i)).1) ((((gx (e := tEv) s.l s.i)).2).1) ((((gx (e := tEv) s.l s.i)).2).2)) == true) && ((!true) || (((alF s.c_Phases s.c_Min s.c_Max s.c_Step s.c_Fallback (nP s.c_Phases s.c_Min s.c_Max s.c_Step s.c_Fallback s.s_Phase s.s_Amps s.s_Left s.s_Welded (((gx (e := tEv) s.l s.i)).1) ((((gx (e := tEv) s.l s.i)).2).1) ((((gx (e := tEv) s.l s.i)).2).2)) (nA s.c_Phases s.c_Min s.c_Max s.c_Step s.c_Fallback s.s_Phase s.s_Amps s.s_Left s.s_Welded (((gx (e := tEv) s.l s.i)).1) ((((gx (e := tEv) s.l s.i)).2).1) ((((gx (e := tEv) s.l s.i)).2).2)) (nL s.c_Phases s.c_Min s.c_Max s.c_Step s.c_Fallback s.s_Phase s.s_Amps s.s_Left s.s_Welded (((gx (e := tEv) s.l s.i)).1) ((((gx (e := tEv) s.l s.i)).2).1) ((((gx (e := tEv) s.l s.i)).2).2)) (nW s.c_Phases s.c_Min s.c_Max s.c_Step s.c_Fallback s.s_Phase s.s_Amps s.s_Left s.s_Welded (((gx (e := tEv) s.l s.i)).1) ((((gx (e := tEv) s.l s.i)).2).1) ((((gx (e := tEv) s.l s.i)).2).2))) == s.c_Max) && ((nP s.c_Phases s.c_Min s.c_Max s.c_Step s.c_Fallback s.s_Phase s.s_Amps s.s_Left s.s_Welded (((gx (e := tEv) s.l s.i)).1) ((((gx (e := tEv) s.l s.i)).2).1) ((((gx (e := tEv) s.l s.i)).2).2)) == 5)))))), .v (.bool true), .v (.int .i64 (IntKind.i64.wrap (s.i + 1)))], [⟨[.v (.string s.c_Name), .v (.int .i64 s.c_At), .v (.int .i64 s.c_Phases), .v (.int .i64 s.c_Min), .v (.int .i64 s.c_Max), .v (.int .i64 s.c_Step), .v (.int .i64 s.c_Fallback), .v (.int .i64 s.c_Owner)], 23⟩, ⟨[.v (.int .i64 (nP s.c_Phases s.c_Min s.c_Max s.c_Step s.c_Fallback s.s_Phase s.s_Amps s.s_Left s.s_Welded (((gx (e := tEv) s.l s.i)).1) ((((gx (e := tEv) s.l s.i)).2).1) ((((gx (e := tEv) s.l s.i)).2).2))), .v (.int .i64 (nA s.c_Phases s.c_Min s.c_Max s.c_Step s.c_Fallback s.s_Phase s.s_Amps s.s_Left s.s_Welded (((gx (e := tEv) s.l s.i)).1) ((((gx (e := tEv) s.l s.i)).2).1) ((((gx (e := tEv) s.l s.i)).2).2))), .v (.int .i64 (nL s.c_Phases s.c_Min s.c_Max s.c_Step s.c_Fallback s.s_Phase s.s_Amps s.s_Left s.s_Welded (((gx (e := tEv) s.l s.i)).1) ((((gx (e := tEv) s.l s.i)).2).1) ((((gx (e := tEv) s.l s.i)).2).2))), .v (.bool (nW s.c_Phases s.c_Min s.c_Max s.c_Step s.c_Fallback s.s_Phase s.s_Amps s.s_Left s.s_Welded (((gx (e := tEv) s.l s.i)).1) ((((gx (e := tEv) s.l s.i)).2).1) ((((gx (e := tEv) s.l s.i)).2).2)))], 25⟩], true⟩)) (.req (0 ≤ s.i ∧ s.i < (List.length s.l : Int)) (.br ((((gx (e := tEv) s.l s.i)).1) == 6) (.req (0 ≤ s.i ∧ s.i < (List.length s.l : Int)) (.ok (⟨.normal, 88, [.xl tEv s.l, .own 0 0, .own 1 0, .v (.bool (s.up_ && (((nW s.c_Phases s.c_Min s.c_Max s.c_Step s.c_Fallback s.s_Phase s.s_Amps s.s_Left s.s_Welded (((gx (e := tEv) s.l s.i)).1) ((((gx (e := tEv) s.l s.i)).2).1) ((((gx (e := tEv) s.l s.i)).2).2)) == (((((gx (e := tEv) s.l s.i)).2).1) == 1)) && ((!(((((gx (e := tEv) s.l s.i)).2).1) == 1)) || (((alF s.c_Phases s.c_Min s.c_Max s.c_Step s.c_Fallback (nP s.c_Phases s.c_Min s.c_Max s.c_Step s.c_Fallback s.s_Phase s.s_Amps s.s_Left s.s_Welded (((gx (e := tEv) s.l s.i)).1) ((((gx (e := tEv) s.l s.i)).2).1) ((((gx (e := tEv) s.l s.i)).2).2)) (nA s.c_Phases s.c_Min s.c_Max s.c_Step s.c_Fallback s.s_Phase s.s_Amps s.s_Left s.s_Welded (((gx (e := tEv) s.l s.i)).1) ((((gx (e := tEv) s.l s.i)).2).1) ((((gx (e := tEv) s.l s.i)).2).2)) (nL s.c_Phases s.c_Min s.c_Max s.c_Step s.c_Fallback s.s_Phase s.s_Amps s.s_Left s.s_Welded (((gx (e := tEv) s.l s.i)).1) ((((gx (e := tEv) s.l s.i)).2).1) ((((gx (e := tEv) s.l s.i)).2).2)) (nW s.c_Phases s.c_Min s.c_Max s.c_Step s.c_Fallback s.s_Phase s.s_Amps s.s_Left s.s_Welded (((gx (e := tEv) s.l s.i)).1) ((((gx (e := tEv) s.l s.i)).2).1) ((((gx (e := tEv) s.l s.i)).2).2))) == s.c_Max) && ((nP s.c_Phases s.c_Min s.c_Max s.c_Step s.c_Fallback s.s_Phase s.s_Amps s.s_Left s.s_Welded (((gx (e := tEv) s.l s.i)).1) ((((gx (e := tEv) s.l s.i)).2).1) ((((gx (e := tEv) s.l s.i)).2).2)) == 5)))))), .v (.bool (((((gx (e := tEv) s.l s.i)).2).1) == 1)), .v (.int .i64 (IntKind.i64.wrap (s.i + 1)))], [⟨[.v (.string s.c_Name), .v (.int .i64 s.c_At), .v (.int .i64 s.c_Phases), .v (.int .i64 s.c_Min), .v (.int .i64 s.c_Max), .v (.int .i64 s.c_Step), .v (.int .i64 s.c_Fallback), .v (.int .i64 s.c_Owner)], 23⟩, ⟨[.v (.int .i64 (nP s.c_Phases s.c_Min s.c_Max s.c_Step s.c_Fallback s.s_Phase s.s_Amps s.s_Left s.s_Welded (((gx (e := tEv) s.l s.i)).1) ((((gx (e := tEv) s.l s.i)).2).1) ((((gx (e := tEv) s.l s.i)).2).2))), .v (.int .i64 (nA s.c_Phases s.c_Min s.c_Max s.c_Step s.c_Fallback s.s_Phase s.s_Amps s.s_Left s.s_Welded (((gx (e := tEv) s.l s.i)).1) ((((gx (e := tEv) s.l s.i)).2).1) ((((gx (e := tEv) s.l s.i)).2).2))), .v (.int .i64 (nL s.c_Phases s.c_Min s.c_Max s.c_Step s.c_Fallback s.s_Phase s.s_Amps s.s_Left s.s_Welded (((gx (e := tEv) s.l s.i)).1) ((((gx (e := tEv) s.l s.i)).2).1) ((((gx (e := tEv) s.l s.i)).2).2))), .v (.bool (nW s.c_Phases s.c_Min s.c_Max s.c_Step s.c_Fallback s.s_Phase s.s_Amps s.s_Left s.s_Welded (((gx (e := tEv) s.l s.i)).1) ((((gx (e := tEv) s.l s.i)).2).1) ((((gx (e := tEv) s.l s.i)).2).2)))], 25⟩], true⟩))) (.ok (⟨.normal, 88, [.xl tEv s.l, .own 0 0, .own 1 0, .v (.bool (s.up_ && (((nW s.c_Phases s.c_Min s.c_Max s.c_Step s.c_Fallback s.s_Phase s.s_Amps s.s_Left s.s_Welded (((gx (e := tEv) s.l s.i)).1) ((((gx (e := tEv) s.l s.i)).2).1) ((((gx (e := tEv) s.l s.i)).2).2)) == false) && ((!false) || (((alF s.c_Phases s.c_Min s.c_Max s.c_Step s.c_Fallback (nP s.c_Phases s.c_Min s.c_Max s.c_Step s.c_Fallback s.s_Phase s.s_Amps s.s_Left s.s_Welded (((gx (e := tEv) s.l s.i)).1) ((((gx (e := tEv) s.l s.i)).2).1) ((((gx (e := tEv) s.l s.i)).2).2)) (nA s.c_Phases s.c_Min s.c_Max s.c_Step s.c_Fallback s.s_Phase s.s_Amps s.s_Left s.s_Welded (((gx (e := tEv) s.l s.i)).1) ((((gx (e := tEv) s.l s.i)).2).1) ((((gx (e := tEv) s.l s.i)).2).2)) (nL s.c_Phases s.c_Min s.c_Max s.c_Step s.c_Fallback s.s_Phase s.s_Amps s.s_Left s.s_Welded (((gx (e := tEv) s.l s.i)).1) ((((gx (e := tEv) s.l s.i)).2).1) ((((gx (e := tEv) s.l s.i)).2).2)) (nW s.c_Phases s.c_Min s.c_Max s.c_Step s.c_Fallback s.s_Phase s.s_Amps s.s_Left s.s_Welded (((gx (e := tEv) s.l s.i)).1) ((((gx (e := tEv) s.l s.i)).2).1) ((((gx (e := tEv) s.l s.i)).2).2))) == s.c_Max) && ((nP s.c_Phases s.c_Min s.c_Max s.c_Step s.c_Fallback s.s_Phase s.s_Amps s.s_Left s.s_Welded (((gx (e := tEv) s.l s.i)).1) ((((gx (e := tEv) s.l s.i)).2).1) ((((gx (e := tEv) s.l s.i)).2).2)) == 5)))))), .v (.bool false), .v (.int .i64 (IntKind.i64.wrap (s.i + 1)))], [⟨[.v (.string s.c_Name), .v (.int .i64 s.c_At), .v (.int .i64 s.c_Phases), .v (.int .i64 s.c_Min), .v (.int .i64 s.c_Max), .v (.int .i64 s.c_Step), .v (.int .i64 s.c_Fallback), .v (.int .i64 s.c_Owner)], 23⟩, ⟨[.v (.int .i64 (nP s.c_Phases s.c_Min s.c_Max s.c_Step s.c_Fallback s.s_Phase s.s_Amps s.s_Left s.s_Welded (((gx (e := tEv) s.l s.i)).1) ((((gx (e := tEv) s.l s.i)).2).1) ((((gx (e := tEv) s.l s.i)).2).2))), .v (.int .i64 (nA s.c_Phases s.c_Min s.c_Max s.c_Step s.c_Fallback s.s_Phase s.s_Amps s.s_Left s.s_Welded (((gx (e := tEv) s.l s.i)).1) ((((gx (e := tEv) s.l s.i)).2).1) ((((gx (e := tEv) s.l s.i)).2).2))), .v (.int .i64 (nL s.c_Phases s.c_Min s.c_Max s.c_Step s.c_Fallback s.s_Phase s.s_Amps s.s_Left s.s_Welded (((gx (e := tEv) s.l s.i)).1) ((((gx (e := tEv) s.l s.i)).2).1) ((((gx (e := tEv) s.l s.i)).2).2))), .v (.bool (nW s.c_Phases s.c_Min s.c_Max s.c_Step s.c_Fallback s.s_Phase s.s_Amps s.s_Left s.s_Welded (((gx (e := tEv) s.l s.i)).1) ((((gx (e := tEv) s.l s.i)).2).1) ((((gx (e := tEv) s.l s.i)).2).2)))], 25⟩], true⟩))))))) (.ok (⟨.exit 0, 88, [.xl tEv s.l, .own 0 0, .own 1 0, .v (.bool s.up_), .v (.bool s.was), .v (.int .i64 s.i)], [⟨[.v (.string s.c_Name), .v (.int .i64 s.c_At), .v (.int .i64 s.c_Phases), .v (.int .i64 s.c_Min), .v (.int .i64 s.c_Max), .v (.int .i64 s.c_Step), .v (.int .i64 s.c_Fallback), .v (.int .i64 s.c_Owner)], 23⟩, ⟨[.v (.int .i64 s.s_Phase), .v (.int .i64 s.s_Amps), .v (.int .i64 s.s_Left), .v (.bool s.s_Welded)], 25⟩], true⟩)) := by kernel_rfl
theorem stp_wel (s : L_wel) (hI : I_wel s) : AllT (fun v => v = rdV 88 A_wel B_wel (f_wel s)) ((codex Tryd.prog glC (specsOf [(10, S_head), (11, S_step), (14, S_rv), (15, S_alw)]) noK noLoops body_wel (frameOf 88 [2, 3, 4, 7, 9, 10] (A_wel s)) (B_wel s)).bind (fun q => .ok (viewQ [2, 3, 4, 7, 9, 10] 2 q))) := by
  constructor
  rw [nfl_wel]
  unfold f_wel fa_wel
  exact
    stp_br (fun c1 =>
      ⟨by (obtain ⟨_, _, h1, h2, _⟩ := hI; simp at c1; omega),
        stp_br (fun c2 =>
          rfl) (fun c2 =>
          stp_br (fun c3 =>
            rfl) (fun c3 =>
            ⟨by (obtain ⟨_, _, h1, h2, _⟩ := hI; simp at c1; omega),
              stp_br (fun c4 =>
                ⟨by (obtain ⟨_, _, h1, h2, _⟩ := hI; simp at c1; omega),
                  rfl⟩) (fun c4 =>
                rfl)⟩))⟩) (fun c1 =>
      rfl)
theorem wel_end (s : L_wel) (hE : E_wel s) : ∃ s', I_wel s' ∧ f_wel s' = .stop (exn_wel s) (run_wel s) := by rw [← run_wel_eq]; exact runW_stop wel_d (mu_wel s + 1) s (wel_E s hE) (Nat.lt_succ_self _)
theorem wel_same (s : L_wel) (vE : Int) (vW : Bool) (vF : Int) (vP : Int) (vA : Int) (vL : Int) (vg : Int × Int × Int) : allR (fun _ => True) (fun _ s' => s = s') (fa_wel s vE vW vF vP vA vL vg) := by
  unfold fa_wel
  exact allR_ite (fun c1 => allR_ite (fun c2 => trivial) (fun c2 => allR_ite (fun c3 => trivial) (fun c3 => allR_ite (fun c4 => trivial) (fun c4 => trivial)))) (fun c1 => rfl)
theorem wel_inv (s : L_wel) (hE : E_wel s) : I_wel (run_wel s) ∧ f_wel (run_wel s) = .stop (exn_wel s) (run_wel s) := by
  obtain ⟨s', hI, hf⟩ := wel_end s hE
  have hs := allR_stop (wel_same _ _ _ _ _ _ _ _) hf
  subst hs
  exact ⟨hI, hf⟩
theorem snd_wel : Sound Tryd.prog glC (.loop body_wel) (loopT 88 2 [2, 3, 4, 7, 9, 10] sel_wel out_wel) :=
  loop_view 88 2 [2, 3, 4, 7, 9, 10] A_wel B_wel I_wel E_wel mu_wel f_wel sel_wel out_wel (code_sound (Γ := specsOf [(10, S_head), (11, S_step), (14, S_rv), (15, S_alw)]) (K := noK) (L := noLoops) (specs_ok (l := [(10, S_head), (11, S_step), (14, S_rv), (15, S_alw)]) ⟨v_head, v_step, v_rv, v_alw, trivial⟩) noK_sound body_wel (fun b hb => by rw [show loopsIn body_wel = [] by kernel_rfl] at hb; cases hb))
    sel_wel_ok wel_E (fun s _ => ⟨rfl, rfl⟩) wel_d (fun s x s' hf => by have := wel_ex s x s' hf; intro h0; subst h0; simp at this) stp_wel (fun s hE => by
      obtain ⟨s', _, h2⟩ := wel_end s hE
      have h3 : exn_wel s = .exit 0 := wel_ex _ _ _ h2
      unfold out_wel
      rw [run_wel_eq]
      simp only [T.all, ← h3]
      rfl)
def S_well : List LV → T LV
  | [.v (.agg ⟨[.string nm, .int .i64 at_, .int .i64 ph, .int .i64 mn, .int .i64 mx, .int .i64 st, .int .i64 fb, .int .i64 ow]⟩), .v (.agg ⟨[.int .i64 sp, .int .i64 sa, .int .i64 sl, .bool sw]⟩), .xl (.pair (.int .i64) (.pair (.int .i64) (.int .i64))) l] => .ok (.v (.bool true))
  | _ => .no
theorem nf_well (nm : ByteArray) (at_ ph mn mx st fb ow sp sa sl : Int) (sw : Bool) (l : List (Int × (Int × Int))) : funx Tryd.prog glC (specsOf [(10, S_head), (11, S_step), (14, S_rv), (15, S_alw)]) noK (fun i => if i = 7 then loopT 88 2 [2, 3, 4, 7, 9, 10] sel_wel out_wel else noLoops i) Tryd.f7 [.v (.agg #[.string nm, .int .i64 at_, .int .i64 ph, .int .i64 mn, .int .i64 mx, .int .i64 st, .int .i64 fb, .int .i64 ow]), .v (.agg #[.int .i64 sp, .int .i64 sa, .int .i64 sl, .bool sw]), .xl tEv l] = .br ((!(stB ph mn mx st fb sp sa sl sw)) || (decide (((List.length l : Int)) > 100))) (.ok (.v (.bool true))) (.req (E_wel (⟨l, true, sw, (0 : Int), nm, at_, ph, mn, mx, st, fb, ow, sp, sa, sl, sw⟩ : L_wel)) (.ok (.v (.bool (((run_wel (⟨l, true, sw, (0 : Int), nm, at_, ph, mn, mx, st, fb, ow, sp, sa, sl, sw⟩ : L_wel)).up_)))))) := by kernel_rfl
theorem v_well : Valid Tryd.prog glC 7 S_well := valid_of Tryd.func7 rfl (specs_ok (l := [(10, S_head), (11, S_step), (14, S_rv), (15, S_alw)]) ⟨v_head, v_step, v_rv, v_alw, trivial⟩) noK_sound (L := (fun i => if i = 7 then loopT 88 2 [2, 3, 4, 7, 9, 10] sel_wel out_wel else noLoops i)) (fun b hb => by
  rw [show loopsIn _ = [body_wel] by kernel_rfl] at hb
  simp only [List.mem_cons, List.not_mem_nil, or_false] at hb
  subst hb
  exact snd_wel) (fun args lv h => by
  unfold S_well at h
  split at h
  · rw [nf_well]
    rename_i nm at_ ph mn mx st fb ow sp sa sl sw l
    obtain rfl := h
    refine ⟨fun _ => rfl, fun hk => ?_⟩
    simp only [Bool.or_eq_false_iff, Bool.not_eq_false', decide_eq_false_iff_not] at hk
    have hE : E_wel ⟨l, true, sw, (0 : Int), nm, at_, ph, mn, mx, st, fb, ow, sp, sa, sl, sw⟩ := ⟨⟨stB_iff.1 hk.1, by simp only; omega⟩, rfl, rfl, rfl⟩
    exact ⟨hE, congrArg (fun z => LV.v (.bool z)) (wel_inv _ hE).1.2.1⟩
  · cases h)
end Go.Proofs.YtiejmafkbfiekaaDoor
