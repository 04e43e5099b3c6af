/- Functions of package car: what they compute, by the executor. -/
import Derived.Test.YtakkjfldfghfcaaAf
namespace Go.Proofs.Ytakkjfldfghfcaa
open Go.Sx
structure L_vm where
  r : Bool
  l : List Int
  n : Int
  i : Int
def A_vm (s : L_vm) : List LV := [.v (.bool s.r), .xl (.int .i64) s.l, .v (.int .i64 s.n), .v (.int .i64 s.i)]
def B_vm (s : L_vm) : List Blk := []
noncomputable def body_vm : Code := ((loopsIn (Try.f18.body.getD .skip))[0]?).getD .skip
def f_vm (s : L_vm) : Rd L_vm :=
  if (decide (s.i < s.n)) then
    if (!(inB ((gi s.l s.i)) (0 : Int) (80 : Int))) then
      .stop (.ret) { s with r := false }
    else
      .next { s with i := (IntKind.i64.wrap (s.i + 1)) }
  else
    .stop (.exit 0) s
def P_vm (s : L_vm) := ((), s.l, s.n)
theorem vm_ex : ∀ s x s', f_vm s = .stop x s' → x = .ret ∨ x = .exit 0 := by
  intro s x s' h
  unfold f_vm at h
  repeat' split at h
  all_goals first | (cases h; done) | (cases h; rfl) | (cases h; simp)
def E_vm (s : L_vm) : Prop := s.n = s.l.length ∧ s.n ≤ 21 ∧ s.i = 0
def I_vm (s : L_vm) : Prop := s.n = s.l.length ∧ s.n ≤ 21 ∧ 0 ≤ s.i ∧ s.i ≤ s.n ∧ (s.l.take s.i.toNat).all (fun p => inB p 0 80) = true
def mu_vm (s : L_vm) : Nat := (s.n - s.i).toNat
def Q_vm (x : Ex) (s s' : L_vm) : Prop := s'.l = s.l ∧ ((x = .exit 0 ∧ s.l.all (fun p => inB p 0 80) = true) ∨ (x = .ret ∧ s'.r = false ∧ s.l.all (fun p => inB p 0 80) = false))
theorem vm_E : ∀ s, E_vm s → I_vm s := by
  intro s h
  obtain ⟨h1, h2, h3⟩ := h
  exact ⟨h1, h2, by omega, by omega, by rw [h3]; rfl⟩
theorem vm_da (s : L_vm) (hI : I_vm s) : allR (fun s' => I_vm s' ∧ mu_vm s' < mu_vm s) (fun x s' => Q_vm x s s') (f_vm s) := by
  unfold f_vm
  obtain ⟨h1, h2, h3, h4, h5⟩ := hI
  refine allR_ite (fun c1 => allR_ite (fun c2 => ?_) (fun c2 => ?_)) (fun c1 => ?_)
  · refine ⟨rfl, .inr ⟨rfl, rfl, ?_⟩⟩
    have c1 : s.i < s.n := by simpa using c1
    have hlt : s.i.toNat < s.l.length := by omega
    have hm := gi_mem hlt
    rw [List.all_eq_false]
    exact ⟨_, hm, by simpa using c2⟩
  · have c1 : s.i < s.n := by simpa using c1
    have hlt : s.i.toNat < s.l.length := by omega
    rw [wrapS (x := s.i + 1) (by omega) (by omega)]
    refine ⟨⟨h1, h2, by simp only; omega, by simp only; omega, ?_⟩, by simp only [mu_vm]; omega⟩
    simp only
    rw [show (s.i + 1).toNat = s.i.toNat + 1 by omega, List.take_add_one, List.all_append, h5]
    rw [gi_eq hlt] at c2
    simp [List.getElem?_eq_getElem hlt]
    simpa using c2
  · refine ⟨rfl, .inl ⟨rfl, ?_⟩⟩
    have c1 : s.n ≤ s.i := by simpa using c1
    rwa [List.take_of_length_le (by omega)] at h5
theorem vm_d : ∀ s s', I_vm s → f_vm s = .next s' → I_vm s' ∧ mu_vm s' < mu_vm s := fun s s' hI h => allR_next (vm_da s hI) h
def sel_vm : List LV → List Blk → T L_vm
  | [.v (.bool r), .xl (.int .i64) l, .v (.int .i64 n), .v (.int .i64 i)], [] => .req (E_vm ⟨r, l, n, i⟩) (.ok ⟨r, l, n, i⟩)
  | _, _ => .no
theorem sel_vm_ok : ∀ vals blks s, (sel_vm vals blks).all (fun x => x = s) → E_vm s ∧ vals = A_vm s ∧ blks = B_vm s := by
  intro vals blks s h
  unfold sel_vm at h
  split at h
  · obtain ⟨h1, rfl⟩ := h
    exact ⟨h1, rfl, rfl⟩
  · cases h
def run_vm (s : L_vm) : L_vm := { (runW f_vm (mu_vm s + 1) s).2 with l := s.l, n := s.n }
theorem run_vm_eq (s : L_vm) : (runW f_vm (mu_vm s + 1) s).2 = run_vm s := by
  have hk := runW_keep (f := f_vm) P_vm (fun s s' hf => by
    unfold f_vm at hf
    repeat' split at hf
    all_goals cases hf
    all_goals rfl) (fun s x s' hf => by
    unfold f_vm at hf
    repeat' split at hf
    all_goals cases hf
    all_goals rfl) (mu_vm s + 1) s
  unfold run_vm
  generalize (runW f_vm (mu_vm s + 1) s).2 = r at *
  cases r
  simp only [P_vm, Prod.mk.injEq, true_and] at hk
  simp only [L_vm.mk.injEq, hk, and_self]
def exn_vm (s : L_vm) : Ex := (runW f_vm (mu_vm s + 1) s).1
def out_vm (s : L_vm) : T (Ex × List LV × List Blk) := .br (isEx (exn_vm s) (.ret)) (.ok (.ret, frameOf 32 [2, 22, 23, 24] (A_vm (run_vm s)), B_vm (run_vm s))) (.ok (.exit 0, frameOf 32 [2, 22, 23, 24] (A_vm (run_vm s)), B_vm (run_vm s)))
theorem nfl_vm (s : L_vm) : backT [2, 22, 23, 24] [] (codex Try.prog noGlobs (specsOf [(19, S_inside)]) noK noLoops body_vm (frameOf 32 [2, 22, 23, 24] (A_vm s)) (B_vm s)) = .br (decide (s.i < s.n)) (.req (0 ≤ s.i ∧ s.i < (List.length s.l : Int)) (.br (!(inB ((gi s.l s.i)) (0 : Int) (80 : Int))) (.ok (⟨.ret, 32, [.v (.bool false), .xl (.int .i64) s.l, .v (.int .i64 s.n), .v (.int .i64 s.i)], [], true⟩)) (.ok (⟨.normal, 32, [.v (.bool s.r), .xl (.int .i64) s.l, .v (.int .i64 s.n), .v (.int .i64 (IntKind.i64.wrap (s.i + 1)))], [], true⟩)))) (.ok (⟨.exit 0, 32, [.v (.bool s.r), .xl (.int .i64) s.l, .v (.int .i64 s.n), .v (.int .i64 s.i)], [], true⟩)) := by kernel_rfl
theorem stp_vm (s : L_vm) (hI : I_vm s) : AllT (fun v => v = rdV 32 A_vm B_vm (f_vm s)) (backT [2, 22, 23, 24] [] (codex Try.prog noGlobs (specsOf [(19, S_inside)]) noK noLoops body_vm (frameOf 32 [2, 22, 23, 24] (A_vm s)) (B_vm s))) := by
  constructor
  rw [nfl_vm]
  unfold f_vm
  exact
    stp_br (fun c1 =>
      ⟨by (obtain ⟨h1, h2, h3, h4, h5⟩ := hI; simp at c1; omega),
        stp_br (fun c2 =>
          rfl) (fun c2 =>
          rfl)⟩) (fun c1 =>
      rfl)
theorem vm_end (s : L_vm) (hE : E_vm s) : ∃ s', I_vm s' ∧ f_vm s' = .stop (exn_vm s) (run_vm s) := by rw [← run_vm_eq]; exact runW_stop vm_d (mu_vm s + 1) s (vm_E s hE) (Nat.lt_succ_self _)
theorem snd_vm : Sound Try.prog noGlobs (.loop body_vm) (loopT 32 [2, 22, 23, 24] [] sel_vm out_vm) :=
  loop_view 32 [2, 22, 23, 24] [] A_vm B_vm I_vm E_vm mu_vm f_vm sel_vm out_vm (code_sound (Γ := specsOf [(19, S_inside)]) (K := noK) (L := noLoops) (specs_ok (l := [(19, S_inside)]) ⟨v_inside, trivial⟩) noK_sound body_vm (fun b hb => by rw [show loopsIn body_vm = [] by kernel_rfl] at hb; cases hb))
    sel_vm_ok vm_E vm_d (fun s x s' hf => by have := vm_ex s x s' hf; intro h0; subst h0; simp at this) stp_vm (fun s hE => by
      obtain ⟨s', _, h2⟩ := vm_end s hE
      have h3 := vm_ex _ _ _ h2
      have h4 : (runW f_vm (mu_vm s + 1) s).1 = exn_vm s := rfl
      rw [h4, run_vm_eq]
      unfold out_vm
      generalize exn_vm s = e at h3
      rcases h3 with h3 | h3 <;> subst h3 <;> simp [T.all, isEx])
theorem vm_fin (s : L_vm) (hE : E_vm s) : ∃ s', I_vm s' ∧ Q_vm (exn_vm s) s' (run_vm s) := by
  obtain ⟨s', hI, hf⟩ := vm_end s hE
  exact ⟨s', hI, allR_stop (vm_da s' hI) hf⟩
def S0_vmd : List LV → T LV
  | [.agg [.xl (.int .i64) pil, .v (.int .i64 tk), .v (.int .i64 got)]] => .ok (.v (.bool (mindB pil tk got)))
  | _ => .no
noncomputable def S_vmd : List LV → T LV := upS Try.prog Try.f18.params.toList S0_vmd
theorem nf_vmd (pil : List Int) (tk got : Int) : funu Try.prog noGlobs (specsOf [(19, S_inside)]) noK (fun i => if i = 4 then loopT 32 [2, 22, 23, 24] [] sel_vm out_vm else noLoops i) Try.f18 [.agg [.xl (.int .i64) pil, .v (.int .i64 tk), .v (.int .i64 got)]] = .br ((decide (((List.length pil : Int)) > 21)) || ((!(inB tk (0 : Int) (1000000 : Int))) || (!(inB got (0 : Int) (2000000000 : Int))))) (.ok (.v (.bool false))) (.req (E_vm (⟨false, pil, ((List.length pil : Int)), (0 : Int)⟩ : L_vm)) (.br (isEx (exn_vm (⟨false, pil, ((List.length pil : Int)), (0 : Int)⟩ : L_vm)) (.ret)) (.ok (.v (.bool (((run_vm (⟨false, pil, ((List.length pil : Int)), (0 : Int)⟩ : L_vm)).r))))) (.ok (.v (.bool true))))) := by kernel_rfl
theorem v_vmd : Valid Try.prog noGlobs 18 S_vmd := valid_ofu Try.func18 rfl (specs_ok (l := [(19, S_inside)]) ⟨v_inside, trivial⟩) noK_sound (L := (fun i => if i = 4 then loopT 32 [2, 22, 23, 24] [] sel_vm out_vm else noLoops i)) (fun b hb => by
  rw [show loopsIn _ = [body_vm] by kernel_rfl] at hb
  simp only [List.mem_cons, List.not_mem_nil, or_false] at hb
  subst hb
  exact snd_vm) (fun args lv h => by
  unfold S0_vmd at h
  split at h
  · simp only [canL, canX]
    rw [nf_vmd]
    rename_i pil tk got
    obtain rfl := h
    refine ⟨fun c1 => congrArg (fun z => LV.v (.bool z)) ?_, fun c1 => ?_⟩
    · rw [eq_comm, Bool.eq_false_iff]
      intro hm
      have := mindB_iff.1 hm
      simp [inB] at c1
      omega
    · have hE : E_vm ⟨false, pil, (List.length pil : Int), (0 : Int)⟩ := ⟨rfl, by simp [inB] at c1; simp only; omega, rfl⟩
      obtain ⟨s', _, hl, hq⟩ := vm_fin _ hE
      have hl : pil = s'.l := hl
      rw [← hl] at hq
      have hm : mindB pil tk got = pil.all (fun p => inB p 0 80) := by
        simp [inB] at c1
        have h21 : pil.length ≤ 21 := by omega
        simp [mindB, inB, h21, c1]
      rw [hm]
      rcases hq with ⟨h1, h2⟩ | ⟨h1, h2, h3⟩
      · rw [h1, h2]; exact ⟨hE, fun h => (by cases h), fun _ => rfl⟩
      · rw [h1, h3, h2]; exact ⟨hE, fun _ => rfl, fun h => by cases h⟩
  · cases h)
end Go.Proofs.Ytakkjfldfghfcaa
