/- ChargerSilence: what it computes. -/
import Derived.Test.YtiejmafkbfiekaaDoorCq
namespace Go.Proofs.YtiejmafkbfiekaaDoor
open Go.Sx
structure L_sil where
  t4 : Bool
  up_ : Bool
  n : Int
  i : Int
  c_Name : ByteArray
  c_At : Int
  c_Phases : Int
  c_Min : Int
  c_Max : Int
  c_Step : Int
  c_Fallback : Int
  c_Owner : Int
  s_Phase : Int
  s_Amps : Int
  s_Left : Int
  s_Welded : Bool
  r_Phase : Int
  r_Amps : Int
  r_Left : Int
  r_Welded : Bool
def A_sil (s : L_sil) : List LV := [.own 0 0, .own 1 0, .v (.bool s.t4), .v (.bool s.up_), .v (.int .i64 s.n), .v (.int .i64 s.i)]
def B_sil (s : L_sil) : List Blk := [⟨[.v (.string s.c_Name), .v (.int .i64 s.c_At), .v (.int .i64 s.c_Phases), .v (.int .i64 s.c_Min), .v (.int .i64 s.c_Max), .v (.int .i64 s.c_Step), .v (.int .i64 s.c_Fallback), .v (.int .i64 s.c_Owner)], 23⟩, ⟨[.v (.int .i64 s.s_Phase), .v (.int .i64 s.s_Amps), .v (.int .i64 s.s_Left), .v (.bool s.s_Welded)], 25⟩, ⟨[.v (.int .i64 s.r_Phase), .v (.int .i64 s.r_Amps), .v (.int .i64 s.r_Left), .v (.bool s.r_Welded)], 25⟩]
noncomputable def body_sil : Code := ((loopsIn (Tryd.f8.body.getD .skip))[0]?).getD .skip
def fa_sil (s : L_sil) (vE : Int) (vL : Int) (vP : Int) (vA : Int) (vW : Bool) : Rd L_sil :=
  if decide (s.i < s.n) then
    if (vE != 0) || (vL != (IntKind.i64.wrap ((IntKind.i64.wrap (s.n - 1)) - s.i))) then
      .stop (.ret) { s with t4 := false }
    else
      .next { s with i := (IntKind.i64.wrap (s.i + 1)), s_Phase := vP, s_Amps := vA, s_Left := vL, s_Welded := vW }
  else
    .stop (.exit 0) s
def f_sil (s : L_sil) : Rd L_sil := fa_sil s (nE s.c_Phases s.c_Min s.c_Max s.c_Step s.c_Fallback s.s_Phase s.s_Amps s.s_Left s.s_Welded (8 : Int) (0 : Int) (0 : Int)) (nL s.c_Phases s.c_Min s.c_Max s.c_Step s.c_Fallback s.s_Phase s.s_Amps s.s_Left s.s_Welded (8 : Int) (0 : Int) (0 : Int)) (nP s.c_Phases s.c_Min s.c_Max s.c_Step s.c_Fallback s.s_Phase s.s_Amps s.s_Left s.s_Welded (8 : Int) (0 : Int) (0 : Int)) (nA s.c_Phases s.c_Min s.c_Max s.c_Step s.c_Fallback s.s_Phase s.s_Amps s.s_Left s.s_Welded (8 : Int) (0 : Int) (0 : Int)) (nW s.c_Phases s.c_Min s.c_Max s.c_Step s.c_Fallback s.s_Phase s.s_Amps s.s_Left s.s_Welded (8 : Int) (0 : Int) (0 : Int))
def P_sil (s : L_sil) := ((), s.up_, s.n, s.c_Name, s.c_At, s.c_Phases, s.c_Min, s.c_Max, s.c_Step, s.c_Fallback, s.c_Owner, s.r_Phase, s.r_Amps, s.r_Left, s.r_Welded)
theorem sil_exa (s : L_sil) (vE : Int) (vL : Int) (vP : Int) (vA : Int) (vW : Bool) : allR (fun _ => True) (fun x _ => x = .ret ∨ x = .exit 0) (fa_sil s vE vL vP vA vW) := by
  unfold fa_sil
  exact allR_ite (fun c1 => allR_ite (fun c2 => (.inl rfl)) (fun c2 => trivial)) (fun c1 => (.inr rfl))
theorem sil_ex : ∀ s x s', f_sil s = .stop x s' → x = .ret ∨ x = .exit 0 := fun s x s' h => allR_stop (sil_exa s _ _ _ _ _) h
theorem sil_ka (s : L_sil) (vE : Int) (vL : Int) (vP : Int) (vA : Int) (vW : Bool) : allR (fun s' => P_sil s' = P_sil s) (fun _ s' => P_sil s' = P_sil s) (fa_sil s vE vL vP vA vW) := by
  unfold fa_sil
  exact allR_ite (fun c1 => allR_ite (fun c2 => rfl) (fun c2 => rfl)) (fun c1 => rfl)
def I_sil (s : L_sil) : Prop := stP s.c_Phases s.c_Min s.c_Max s.c_Step s.c_Fallback s.s_Phase s.s_Amps s.s_Left s.s_Welded ∧ s.s_Welded = false ∧ 0 ≤ s.i ∧ s.i ≤ s.n ∧ s.n ≤ 300 ∧ s.s_Left = s.n - s.i
def E_sil (s : L_sil) : Prop := I_sil s
def mu_sil (s : L_sil) : Nat := (s.n - s.i).toNat
theorem sil_E : ∀ s, E_sil s → I_sil s := fun _ h => h
theorem sil_acc (s : L_sil) (hI : I_sil s) (hi : s.i < s.n) : nE s.c_Phases s.c_Min s.c_Max s.c_Step s.c_Fallback s.s_Phase s.s_Amps s.s_Left s.s_Welded (8 : Int) (0 : Int) (0 : Int) = 0 ∧ nP s.c_Phases s.c_Min s.c_Max s.c_Step s.c_Fallback s.s_Phase s.s_Amps s.s_Left s.s_Welded (8 : Int) (0 : Int) (0 : Int) = s.s_Phase ∧ nL s.c_Phases s.c_Min s.c_Max s.c_Step s.c_Fallback s.s_Phase s.s_Amps s.s_Left s.s_Welded (8 : Int) (0 : Int) (0 : Int) = s.n - 1 - s.i ∧ nW s.c_Phases s.c_Min s.c_Max s.c_Step s.c_Fallback s.s_Phase s.s_Amps s.s_Left s.s_Welded (8 : Int) (0 : Int) (0 : Int) = false := by
  obtain ⟨h1, h2, h3, h4, h5, h6⟩ := hI
  have he := accepted (en := 0) (em := 0) h1 (.inl rfl)
  obtain ⟨e1, e2, e3, e4⟩ := step_eqs he
  refine ⟨he, ?_, ?_, ?_⟩
  · rw [e1]; simp [phF]
  · rw [e3]; simp only [cL, tick_max]; simp; omega
  · rw [e4, h2]; rfl
theorem sil_da (s : L_sil) (hI : I_sil s) : allR (fun s' => I_sil s' ∧ mu_sil s' < mu_sil s) (fun x s' => x = .exit 0 ∧ s' = s ∧ s.n ≤ s.i) (f_sil s) := by
  unfold f_sil fa_sil
  refine allR_ite (fun hi => ?_) (fun hi => ?_)
  · have hi : s.i < s.n := by simpa using hi
    obtain ⟨q1, q2, q3, q4⟩ := sil_acc s hI hi
    obtain ⟨h1, h2, h3, h4, h5, h6⟩ := hI
    have hn := st_next q1
    obtain ⟨e1, e2, e3, e4⟩ := step_eqs q1
    rw [wrapS (x := s.n - 1) (by omega) (by omega), wrapS (x := s.n - 1 - s.i) (by omega) (by omega), wrapS (x := s.i + 1) (by omega) (by omega), q1, q3]
    refine allR_ite (fun c => by simp at c) (fun _ => ?_)
    refine ⟨⟨?_, ?_, by (try simp only); omega, by (try simp only); omega, h5, by (try simp only); omega⟩, by simp only [mu_sil]; omega⟩
    · simp only
      rw [e1, e2, ← q3, e3, e4]
      exact hn
    · exact q4
  · exact ⟨rfl, rfl, by simpa using hi⟩
theorem sil_d : ∀ s s', I_sil s → f_sil s = .next s' → I_sil s' ∧ mu_sil s' < mu_sil s := fun s s' hI h => allR_next (sil_da s hI) h
def sel_sil : List LV → List Blk → T L_sil
  | [.own 0 0, .own 1 0, .v (.bool t4), .v (.bool up_), .v (.int .i64 n), .v (.int .i64 i)], [⟨[.v (.string c_Name), .v (.int .i64 c_At), .v (.int .i64 c_Phases), .v (.int .i64 c_Min), .v (.int .i64 c_Max), .v (.int .i64 c_Step), .v (.int .i64 c_Fallback), .v (.int .i64 c_Owner)], 23⟩, ⟨[.v (.int .i64 s_Phase), .v (.int .i64 s_Amps), .v (.int .i64 s_Left), .v (.bool s_Welded)], 25⟩, ⟨[.v (.int .i64 r_Phase), .v (.int .i64 r_Amps), .v (.int .i64 r_Left), .v (.bool r_Welded)], 25⟩] => .req (E_sil ⟨t4, up_, n, i, c_Name, c_At, c_Phases, c_Min, c_Max, c_Step, c_Fallback, c_Owner, s_Phase, s_Amps, s_Left, s_Welded, r_Phase, r_Amps, r_Left, r_Welded⟩) (.ok ⟨t4, up_, n, i, c_Name, c_At, c_Phases, c_Min, c_Max, c_Step, c_Fallback, c_Owner, s_Phase, s_Amps, s_Left, s_Welded, r_Phase, r_Amps, r_Left, r_Welded⟩)
  | _, _ => .no
theorem sel_sil_ok : ∀ vals blks s, (sel_sil vals blks).all (fun x => x = s) → E_sil s ∧ vals = A_sil s ∧ blks = B_sil s := by
  intro vals blks s h
  unfold sel_sil at h
  split at h
  · obtain ⟨h1, rfl⟩ := h
    exact ⟨h1, rfl, rfl⟩
  · cases h
def run_sil (s : L_sil) : L_sil := { (runW f_sil (mu_sil s + 1) s).2 with up_ := s.up_, n := s.n, c_Name := s.c_Name, c_At := s.c_At, c_Phases := s.c_Phases, c_Min := s.c_Min, c_Max := s.c_Max, c_Step := s.c_Step, c_Fallback := s.c_Fallback, c_Owner := s.c_Owner, r_Phase := s.r_Phase, r_Amps := s.r_Amps, r_Left := s.r_Left, r_Welded := s.r_Welded }
theorem run_sil_eq (s : L_sil) : (runW f_sil (mu_sil s + 1) s).2 = run_sil s := by
  have hk := runW_keep (f := f_sil) P_sil (fun s s' hf => allR_next (sil_ka s _ _ _ _ _) hf) (fun s x s' hf => allR_stop (sil_ka s _ _ _ _ _) hf) (mu_sil s + 1) s
  unfold run_sil
  generalize (runW f_sil (mu_sil s + 1) s).2 = r at *
  cases r
  simp only [P_sil, Prod.mk.injEq, true_and] at hk
  simp only [L_sil.mk.injEq, hk, and_self]
def exn_sil (s : L_sil) : Ex := (runW f_sil (mu_sil s + 1) s).1
def out_sil (s : L_sil) : T (Ex × List LV × List Blk) := .br (isEx (exn_sil s) (.ret)) (.ok (.ret, frameOf 92 [2, 3, 4, 5, 9, 10] (A_sil (run_sil s)), B_sil (run_sil s))) (.ok (.exit 0, frameOf 92 [2, 3, 4, 5, 9, 10] (A_sil (run_sil s)), B_sil (run_sil s)))
theorem nfl_sil (s : L_sil) : (codex Tryd.prog glC (specsOf [(10, S_head), (11, S_step), (14, S_rv), (15, S_alw)]) noK noLoops body_sil (frameOf 92 [2, 3, 4, 5, 9, 10] (A_sil s)) (B_sil s)).bind (fun q => .ok (viewQ [2, 3, 4, 5, 9, 10] 3 q)) = .br (decide (s.i < s.n)) (.br (((nE s.c_Phases s.c_Min s.c_Max s.c_Step s.c_Fallback s.s_Phase s.s_Amps s.s_Left s.s_Welded (8 : Int) (0 : Int) (0 : Int)) != 0) || ((nL s.c_Phases s.c_Min s.c_Max s.c_Step s.c_Fallback s.s_Phase s.s_Amps s.s_Left s.s_Welded (8 : Int) (0 : Int) (0 : Int)) != (IntKind.i64.wrap ((IntKind.i64.wrap (s.n - 1)) - s.i)))) (.ok (⟨.ret, 92, [.own 0 0, .own 1 0, .v (.bool false), .v (.bool s.up_), .v (.int .i64 s.n), .v (.int .i64 s.i)], [⟨[.v (.string s.c_Name), .v (.int .i64 s.c_At), .v (.int .i64 s.c_Phases), .v (.int .i64 s.c_Min), .v (.int .i64 s.c_Max), .v (.int .i64 s.c_Step), .v (.int .i64 s.c_Fallback), .v (.int .i64 s.c_Owner)], 23⟩, ⟨[.v (.int .i64 s.s_Phase), .v (.int .i64 s.s_Amps), .v (.int .i64 s.s_Left), .v (.bool s.s_Welded)], 25⟩, ⟨[.v (.int .i64 s.r_Phase), .v (.int .i64 s.r_Amps), .v (.int .i64 s.r_Left), .v (.bool s.r_Welded)], 25⟩], true⟩)) (.ok (⟨.normal, 92, [.own 0 0, .own 1 0, .v (.bool s.t4), .v (.bool s.up_), .v (.int .i64 s.n), .v (.int .i64 (IntKind.i64.wrap (s.i + 1)))], [⟨[.v (.string s.c_Name), .v (.int .i64 s.c_At), .v (.int .i64 s.c_Phases), .v (.int .i64 s.c_Min), .v (.int .i64 s.c_Max), .v (.int .i64 s.c_Step), .v (.int .i64 s.c_Fallback), .v (.int .i64 s.c_Owner)], 23⟩, ⟨[.v (.int .i64 (nP s.c_Phases s.c_Min s.c_Max s.c_Step s.c_Fallback s.s_Phase s.s_Amps s.s_Left s.s_Welded (8 : Int) (0 : Int) (0 : Int))), .v (.int .i64 (nA s.c_Phases s.c_Min s.c_Max s.c_Step s.c_Fallback s.s_Phase s.s_Amps s.s_Left s.s_Welded (8 : Int) (0 : Int) (0 : Int))), .v (.int .i64 (nL s.c_Phases s.c_Min s.c_Max s.c_Step s.c_Fallback s.s_Phase s.s_Amps s.s_Left s.s_Welded (8 : Int) (0 : Int) (0 : Int))), .v (.bool (nW s.c_Phases s.c_Min s.c_Max s.c_Step s.c_Fallback s.s_Phase s.s_Amps s.s_Left s.s_Welded (8 : Int) (0 : Int) (0 : Int)))], 25⟩, ⟨[.v (.int .i64 s.r_Phase), .v (.int .i64 s.r_Amps), .v (.int .i64 s.r_Left), .v (.bool s.r_Welded)], 25⟩], true⟩))) (.ok (⟨.exit 0, 92, [.own 0 0, .own 1 0, .v (.bool s.t4), .v (.bool s.up_), .v (.int .i64 s.n), .v (.int .i64 s.i)], [⟨[.v (.string s.c_Name), .v (.int .i64 s.c_At), .v (.int .i64 s.c_Phases), .v (.int .i64 s.c_Min), .v (.int .i64 s.c_Max), .v (.int .i64 s.c_Step), .v (.int .i64 s.c_Fallback), .v (.int .i64 s.c_Owner)], 23⟩, ⟨[.v (.int .i64 s.s_Phase), .v (.int .i64 s.s_Amps), .v (.int .i64 s.s_Left), .v (.bool s.s_Welded)], 25⟩, ⟨[.v (.int .i64 s.r_Phase), .v (.int .i64 s.r_Amps), .v (.int .i64 s.r_Left), .v (.bool s.r_Welded)], 25⟩], true⟩)) := by kernel_rfl
theorem stp_sil (s : L_sil) (hI : I_sil s) : AllT (fun v => v = rdV 92 A_sil B_sil (f_sil s)) ((codex Tryd.prog glC (specsOf [(10, S_head), (11, S_step), (14, S_rv), (15, S_alw)]) noK noLoops body_sil (frameOf 92 [2, 3, 4, 5, 9, 10] (A_sil s)) (B_sil s)).bind (fun q => .ok (viewQ [2, 3, 4, 5, 9, 10] 3 q))) := by
  constructor
  rw [nfl_sil]
  unfold f_sil fa_sil
  exact
    stp_br (fun c1 =>
      stp_br (fun c2 =>
        rfl) (fun c2 =>
        rfl)) (fun c1 =>
      rfl)
theorem sil_end (s : L_sil) (hE : E_sil s) : ∃ s', I_sil s' ∧ f_sil s' = .stop (exn_sil s) (run_sil s) := by rw [← run_sil_eq]; exact runW_stop sil_d (mu_sil s + 1) s (sil_E s hE) (Nat.lt_succ_self _)
theorem snd_sil : Sound Tryd.prog glC (.loop body_sil) (loopT 92 3 [2, 3, 4, 5, 9, 10] sel_sil out_sil) :=
  loop_view 92 3 [2, 3, 4, 5, 9, 10] A_sil B_sil I_sil E_sil mu_sil f_sil sel_sil out_sil (code_sound (Γ := specsOf [(10, S_head), (11, S_step), (14, S_rv), (15, S_alw)]) (K := noK) (L := noLoops) (specs_ok (l := [(10, S_head), (11, S_step), (14, S_rv), (15, S_alw)]) ⟨v_head, v_step, v_rv, v_alw, trivial⟩) noK_sound body_sil (fun b hb => by rw [show loopsIn body_sil = [] by kernel_rfl] at hb; cases hb))
    sel_sil_ok sil_E (fun s _ => ⟨rfl, rfl⟩) sil_d (fun s x s' hf => by have := sil_ex s x s' hf; intro h0; subst h0; simp at this) stp_sil (fun s hE => by
      obtain ⟨s', _, h2⟩ := sil_end s hE
      have h3 := sil_ex _ _ _ h2
      have h4 : (runW f_sil (mu_sil s + 1) s).1 = exn_sil s := rfl
      rw [h4, run_sil_eq]
      unfold out_sil
      generalize exn_sil s = e at h3
      rcases h3 with h3 | h3 <;> subst h3 <;> simp [T.all, isEx])
theorem sil_fin (s : L_sil) (hE : E_sil s) : exn_sil s = .exit 0 ∧ I_sil (run_sil s) ∧ (run_sil s).s_Left = 0 := by
  obtain ⟨s', hI, hf⟩ := sil_end s hE
  obtain ⟨h1, h2, h3⟩ := allR_stop (sil_da s' hI) hf
  rw [h2]
  refine ⟨h1, hI, ?_⟩
  obtain ⟨_, _, _, g4, _, g6⟩ := hI
  omega
def S_sill : List LV → T LV
  | [.v (.agg ⟨[.string nm, .int .i64 at_, .int .i64 ph, .int .i64 mn, .int .i64 mx, .int .i64 st, .int .i64 fb, .int .i64 ow]⟩), .v (.agg ⟨[.int .i64 sp, .int .i64 sa, .int .i64 sl, .bool sw]⟩)] => .ok (.v (.bool true))
  | _ => .no
theorem nf_sill (nm : ByteArray) (at_ ph mn mx st fb ow sp sa sl : Int) (sw : Bool) : funx Tryd.prog glC (specsOf [(10, S_head), (11, S_step), (14, S_rv), (15, S_alw)]) noK (fun i => if i = 9 then loopT 92 3 [2, 3, 4, 5, 9, 10] sel_sil out_sil else noLoops i) Tryd.f8 [.v (.agg #[.string nm, .int .i64 at_, .int .i64 ph, .int .i64 mn, .int .i64 mx, .int .i64 st, .int .i64 fb, .int .i64 ow]), .v (.agg #[.int .i64 sp, .int .i64 sa, .int .i64 sl, .bool sw])] = .br ((!(stB ph mn mx st fb sp sa sl sw)) || (sw || (decide (sl > 300)))) (.ok (.v (.bool true))) (.req (E_sil (⟨false, (true && (((nE ph mn mx st fb sp sa sl sw (9 : Int) (0 : Int) (0 : Int)) == 0) && (((nP ph mn mx st fb sp sa sl sw (9 : Int) (0 : Int) (0 : Int)) != 4) && (((nL ph mn mx st fb sp sa sl sw (9 : Int) (0 : Int) (0 : Int)) == 0) && ((alF ph mn mx st fb (nP ph mn mx st fb sp sa sl sw (9 : Int) (0 : Int) (0 : Int)) (nA ph mn mx st fb sp sa sl sw (9 : Int) (0 : Int) (0 : Int)) (nL ph mn mx st fb sp sa sl sw (9 : Int) (0 : Int) (0 : Int)) (nW ph mn mx st fb sp sa sl sw (9 : Int) (0 : Int) (0 : Int))) == 0))))), sl, (0 : Int), nm, at_, ph, mn, mx, st, fb, ow, sp, sa, sl, sw, (nP ph mn mx st fb sp sa sl sw (9 : Int) (0 : Int) (0 : Int)), (nA ph mn mx st fb sp sa sl sw (9 : Int) (0 : Int) (0 : Int)), (nL ph mn mx st fb sp sa sl sw (9 : Int) (0 : Int) (0 : Int)), (nW ph mn mx st fb sp sa sl sw (9 : Int) (0 : Int) (0 : Int))⟩ : L_sil)) (.br (isEx (exn_sil (⟨false, (true && (((nE ph mn mx st fb sp sa sl sw (9 : Int) (0 : Int) (0 : Int)) == 0) && (((nP ph mn mx st fb sp sa sl sw (9 : Int) (0 : Int) (0 : Int)) != 4) && (((nL ph mn mx st fb sp sa sl sw (9 : Int) (0 : Int) (0 : Int)) == 0) && ((alF ph mn mx st fb (nP ph mn mx st fb sp sa sl sw (9 : Int) (0 : Int) (0 : Int)) (nA ph mn mx st fb sp sa sl sw (9 : Int) (0 : Int) (0 : Int)) (nL ph mn mx st fb sp sa sl sw (9 : Int) (0 : Int) (0 : Int)) (nW ph mn mx st fb sp sa sl sw (9 : Int) (0 : Int) (0 : Int))) == 0))))), sl, (0 : Int), nm, at_, ph, mn, mx, st, fb, ow, sp, sa, sl, sw, (nP ph mn mx st fb sp sa sl sw (9 : Int) (0 : Int) (0 : Int)), (nA ph mn mx st fb sp sa sl sw (9 : Int) (0 : Int) (0 : Int)), (nL ph mn mx st fb sp sa sl sw (9 : Int) (0 : Int) (0 : Int)), (nW ph mn mx st fb sp sa sl sw (9 : Int) (0 : Int) (0 : Int))⟩ : L_sil)) (.ret)) (.ok (.v (.bool (((run_sil (⟨false, (true && (((nE ph mn mx st fb sp sa sl sw (9 : Int) (0 : Int) (0 : Int)) == 0) && (((nP ph mn mx st fb sp sa sl sw (9 : Int) (0 : Int) (0 : Int)) != 4) && (((nL ph mn mx st fb sp sa sl sw (9 : Int) (0 : Int) (0 : Int)) == 0) && ((alF ph mn mx st fb (nP ph mn mx st fb sp sa sl sw (9 : Int) (0 : Int) (0 : Int)) (nA ph mn mx st fb sp sa sl sw (9 : Int) (0 : Int) (0 : Int)) (nL ph mn mx st fb sp sa sl sw (9 : Int) (0 : Int) (0 : Int)) (nW ph mn mx st fb sp sa sl sw (9 : Int) (0 : Int) (0 : Int))) == 0))))), sl, (0 : Int), nm, at_, ph, mn, mx, st, fb, ow, sp, sa, sl, sw, (nP ph mn mx st fb sp sa sl sw (9 : Int) (0 : Int) (0 : Int)), (nA ph mn mx st fb sp sa sl sw (9 : Int) (0 : Int) (0 : Int)), (nL ph mn mx st fb sp sa sl sw (9 : Int) (0 : Int) (0 : Int)), (nW ph mn mx st fb sp sa sl sw (9 : Int) (0 : Int) (0 : Int))⟩ : L_sil)).t4))))) (.ok (.v (.bool (((true && (((nE ph mn mx st fb sp sa sl sw (9 : Int) (0 : Int) (0 : Int)) == 0) && (((nP ph mn mx st fb sp sa sl sw (9 : Int) (0 : Int) (0 : Int)) != 4) && (((nL ph mn mx st fb sp sa sl sw (9 : Int) (0 : Int) (0 : Int)) == 0) && ((alF ph mn mx st fb (nP ph mn mx st fb sp sa sl sw (9 : Int) (0 : Int) (0 : Int)) (nA ph mn mx st fb sp sa sl sw (9 : Int) (0 : Int) (0 : Int)) (nL ph mn mx st fb sp sa sl sw (9 : Int) (0 : Int) (0 : Int)) (nW ph mn mx st fb sp sa sl sw (9 : Int) (0 : Int) (0 : Int))) == 0)))))) && (decide ((alF ph mn mx st fb (((run_sil (⟨false, (true && (((nE ph mn mx st fb sp sa sl sw (9 : Int) (0 : Int) (0 : Int)) == 0) && (((nP ph mn mx st fb sp sa sl sw (9 : Int) (0 : Int) (0 : Int)) != 4) && (((nL ph mn mx st fb sp sa sl sw (9 : Int) (0 : Int) (0 : Int)) == 0) && ((alF ph mn mx st fb (nP ph mn mx st fb sp sa sl sw (9 : Int) (0 : Int) (0 : Int)) (nA ph mn mx st fb sp sa sl sw (9 : Int) (0 : Int) (0 : Int)) (nL ph mn mx st fb sp sa sl sw (9 : Int) (0 : Int) (0 : Int)) (nW ph mn mx st fb sp sa sl sw (9 : Int) (0 : Int) (0 : Int))) == 0))))), sl, (0 : Int), nm, at_, ph, mn, mx, st, fb, ow, sp, sa, sl, sw, (nP ph mn mx st fb sp sa sl sw (9 : Int) (0 : Int) (0 : Int)), (nA ph mn mx st fb sp sa sl sw (9 : Int) (0 : Int) (0 : Int)), (nL ph mn mx st fb sp sa sl sw (9 : Int) (0 : Int) (0 : Int)), (nW ph mn mx st fb sp sa sl sw (9 : Int) (0 : Int) (0 : Int))⟩ : L_sil)).s_Phase)) (((run_sil (⟨false, (true && (((nE ph mn mx st fb sp sa sl sw (9 : Int) (0 : Int) (0 : Int)) == 0) && (((nP ph mn mx st fb sp sa sl sw (9 : Int) (0 : Int) (0 : Int)) != 4) && (((nL ph mn mx st fb sp sa sl sw (9 : Int) (0 : Int) (0 : Int)) == 0) && ((alF ph mn mx st fb (nP ph mn mx st fb sp sa sl sw (9 : Int) (0 : Int) (0 : Int)) (nA ph mn mx st fb sp sa sl sw (9 : Int) (0 : Int) (0 : Int)) (nL ph mn mx st fb sp sa sl sw (9 : Int) (0 : Int) (0 : Int)) (nW ph mn mx st fb sp sa sl sw (9 : Int) (0 : Int) (0 : Int))) == 0))))), sl, (0 : Int), nm, at_, ph, mn, mx, st, fb, ow, sp, sa, sl, sw, (nP ph mn mx st fb sp sa sl sw (9 : Int) (0 : Int) (0 : Int)), (nA ph mn mx st fb sp sa sl sw (9 : Int) (0 : Int) (0 : Int)), (nL ph mn mx st fb sp sa sl sw (9 : Int) (0 : Int) (0 : Int)), (nW ph mn mx st fb sp sa sl sw (9 : Int) (0 : Int) (0 : Int))⟩ : L_sil)).s_Amps)) (((run_sil (⟨false, (true && (((nE ph mn mx st fb sp sa sl sw (9 : Int) (0 : Int) (0 : Int)) == 0) && (((nP ph mn mx st fb sp sa sl sw (9 : Int) (0 : Int) (0 : Int)) != 4) && (((nL ph mn mx st fb sp sa sl sw (9 : Int) (0 : Int) (0 : Int)) == 0) && ((alF ph mn mx st fb (nP ph mn mx st fb sp sa sl sw (9 : Int) (0 : Int) (0 : Int)) (nA ph mn mx st fb sp sa sl sw (9 : Int) (0 : Int) (0 : Int)) (nL ph mn mx st fb sp sa sl sw (9 : Int) (0 : Int) (0 : Int)) (nW ph mn mx st fb sp sa sl sw (9 : Int) (0 : Int) (0 : Int))) == 0))))), sl, (0 : Int), nm, at_, ph, mn, mx, st, fb, ow, sp, sa, sl, sw, (nP ph mn mx st fb sp sa sl sw (9 : Int) (0 : Int) (0 : Int)), (nA ph mn mx st fb sp sa sl sw (9 : Int) (0 : Int) (0 : Int)), (nL ph mn mx st fb sp sa sl sw (9 : Int) (0 : Int) (0 : Int)), (nW ph mn mx st fb sp sa sl sw (9 : Int) (0 : Int) (0 : Int))⟩ : L_sil)).s_Left)) (((run_sil (⟨false, (true && (((nE ph mn mx st fb sp sa sl sw (9 : Int) (0 : Int) (0 : Int)) == 0) && (((nP ph mn mx st fb sp sa sl sw (9 : Int) (0 : Int) (0 : Int)) != 4) && (((nL ph mn mx st fb sp sa sl sw (9 : Int) (0 : Int) (0 : Int)) == 0) && ((alF ph mn mx st fb (nP ph mn mx st fb sp sa sl sw (9 : Int) (0 : Int) (0 : Int)) (nA ph mn mx st fb sp sa sl sw (9 : Int) (0 : Int) (0 : Int)) (nL ph mn mx st fb sp sa sl sw (9 : Int) (0 : Int) (0 : Int)) (nW ph mn mx st fb sp sa sl sw (9 : Int) (0 : Int) (0 : Int))) == 0))))), sl, (0 : Int), nm, at_, ph, mn, mx, st, fb, ow, sp, sa, sl, sw, (nP ph mn mx st fb sp sa sl sw (9 : Int) (0 : Int) (0 : Int)), (nA ph mn mx st fb sp sa sl sw (9 : Int) (0 : Int) (0 : Int)), (nL ph mn mx st fb sp sa sl sw (9 : Int) (0 : Int) (0 : Int)), (nW ph mn mx st fb sp sa sl sw (9 : Int) (0 : Int) (0 : Int))⟩ : L_sil)).s_Welded))) ≤ fb)))))))) := by kernel_rfl
theorem v_sill : Valid Tryd.prog glC 8 S_sill := valid_of Tryd.func8 rfl (specs_ok (l := [(10, S_head), (11, S_step), (14, S_rv), (15, S_alw)]) ⟨v_head, v_step, v_rv, v_alw, trivial⟩) noK_sound (L := (fun i => if i = 9 then loopT 92 3 [2, 3, 4, 5, 9, 10] sel_sil out_sil else noLoops i)) (fun b hb => by
  rw [show loopsIn _ = [body_sil] by kernel_rfl] at hb
  simp only [List.mem_cons, List.not_mem_nil, or_false] at hb
  subst hb
  exact snd_sil) (fun args lv h => by
  unfold S_sill at h
  split at h
  · rw [nf_sill]
    rename_i nm at_ ph mn mx st fb ow sp sa sl sw
    obtain rfl := h
    refine ⟨fun _ => rfl, fun hk => ?_⟩
    simp only [Bool.or_eq_false_iff, Bool.not_eq_false', decide_eq_false_iff_not] at hk
    obtain ⟨k1, k2, k3⟩ := hk
    subst k2
    have hs : stP ph mn mx st fb sp sa sl false := stB_iff.1 k1
    have he := accepted (ek := 9) (en := 0) (em := 0) hs (.inr (.inl rfl))
    obtain ⟨e1, e2, e3, e4⟩ := step_eqs he
    have hn := st_next he
    have hp : phF sp false 9 0 ≠ 4 := by simp [phF]; split <;> omega
    have hl : cL sl 9 0 = 0 := by simp [cL]
    have ha : alF ph mn mx st fb (phF sp false 9 0) (cA sa sl 9 0) (cL sl 9 0) (cW false 9 0) = 0 := by
      rw [alF_val hn]
      simp [cW, hp]
    rw [e1, e2, e3, e4, he, ha]
    have hs' := hs
    unfold stP at hs'
    have hup : (true && (((0 : Int) == 0) && ((phF sp false 9 0 != 4) && ((cL sl 9 0 == 0) && ((0 : Int) == 0))))) = true := by simp [hp, hl]
    rw [hup]
    have hE : E_sil ⟨false, true, sl, (0 : Int), nm, at_, ph, mn, mx, st, fb, ow, sp, sa, sl, false, phF sp false 9 0, cA sa sl 9 0, cL sl 9 0, cW false 9 0⟩ := ⟨hs, rfl, by simp only; omega, by simp only; omega, by simp only; omega, by simp only; omega⟩
    obtain ⟨f1, f2, f3⟩ := sil_fin _ hE
    refine ⟨hE, fun hb => ?_, fun _ => ?_⟩
    · rw [f1] at hb; cases hb
    · refine congrArg (fun z => LV.v (.bool z)) ?_
      have hst2 : stP ph mn mx st fb _ _ _ _ := f2.1
      have hw2 : (run_sil _).s_Welded = false := f2.2.1
      rw [Bool.true_and, decide_eq_true_eq, alF_val hst2, hw2, f3]
      have hfb := chB_iff.1 hs'.1
      simp
      split <;> omega
  · cases h)
end Go.Proofs.YtiejmafkbfiekaaDoor
