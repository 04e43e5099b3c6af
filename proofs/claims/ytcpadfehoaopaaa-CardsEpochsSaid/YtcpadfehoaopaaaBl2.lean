/- CardsEpochs: what it computes. -/
import Derived.Test.YtcpadfehoaopaaaBq
import Derived.Test.YtcpadfehoaopaaaBs
namespace Go.Proofs.Ytcpadfehoaopaaa
open Go.Sx
structure L_ep where
  l : List (Int × (Int × (Int × Int)))
  up_ : Bool
  n : Int
  m : Int
  k : Int
  e : Int
  in_ : Bool
  there : Bool
  q : List (Int × (Int × (Int × Int)))
  z : Int
  i : Int
  c_Number : Int
  c_Contract : Int
  c_First : Int
  c_Last : Int
def A_ep (s : L_ep) : List LV := [.xl tC s.l, .v (.bool s.up_), .v (.int .i64 s.n), .v (.int .i64 s.m), .own 0 0, .v (.int .i64 s.k), .v (.int .i64 s.e), .v (.bool s.in_), .v (.bool s.there), .xl tC s.q, .v (.int .i64 s.z), .v (.int .i64 s.i)]
def B_ep (s : L_ep) : List Blk := [⟨[.v (.int .i64 s.c_Number), .v (.int .i64 s.c_Contract), .v (.int .i64 s.c_First), .v (.int .i64 s.c_Last)], 40, .cl, false⟩]
noncomputable def body_ep : Code := ((loopsIn (Try.f4.body.getD .skip))[0]?).getD .skip
def f_ep (s : L_ep) : Rd L_ep :=
  if (decide (s.i < s.z)) then
    .next { s with there := (s.there || ((gC s.q s.i).1 == s.m)), i := (IntKind.i64.wrap (s.i + 1)) }
  else
    .stop (.exit 0) s
def P_ep (s : L_ep) := ((), s.l, s.up_, s.n, s.m, s.k, s.e, s.in_, s.q, s.z, s.c_Number, s.c_Contract, s.c_First, s.c_Last)
theorem ep_ex : ∀ s x s', f_ep s = .stop x s' → x = .exit 0 := by
  intro s x s' h
  unfold f_ep at h
  repeat' split at h
  all_goals first | (cases h; done) | (cases h; rfl) | (cases h; simp)
def E_ep (s : L_ep) : Prop := s.i = 0 ∧ s.z = s.q.length ∧ s.z ≤ 1000 ∧ s.there = false
def I_ep (s : L_ep) : Prop := 0 ≤ s.i ∧ s.i ≤ s.z ∧ s.z = s.q.length ∧ s.z ≤ 1000 ∧ s.there = (s.q.take s.i.toNat).any (fun x => x.1 == s.m)
def mu_ep (s : L_ep) : Nat := (s.z - s.i).toNat
def Q_ep (x : Ex) (s s' : L_ep) : Prop := x = .exit 0 ∧ s'.there = s'.q.any (fun x => x.1 == s'.m)
theorem ep_E : ∀ s, E_ep s → I_ep s := by
  intro s h
  obtain ⟨h1, h2, h3, h4⟩ := h
  exact ⟨by omega, by omega, h2, h3, by rw [h1, h4]; rfl⟩
theorem ep_da (s : L_ep) (hI : I_ep s) : allR (fun s' => I_ep s' ∧ mu_ep s' < mu_ep s) (fun x s' => Q_ep x s s') (f_ep s) := by
  unfold f_ep
  obtain ⟨h1, h2, h3, h4, h5⟩ := hI
  refine allR_ite (fun c1 => ?_) (fun c1 => ?_)
  · have c1 : s.i < s.z := by simpa using c1
    rw [wrapS (x := s.i + 1) (by omega) (by omega)]
    refine ⟨⟨by simp only; omega, by simp only; omega, h3, h4, ?_⟩, by simp only [mu_ep]; omega⟩
    simp only
    rw [(gC_step h1 (by omega)).2, h5]
    simp
  · have c1 : s.z ≤ s.i := by simpa using c1
    exact ⟨rfl, by rw [h5, List.take_of_length_le (by omega)]⟩
theorem ep_d : ∀ s s', I_ep s → f_ep s = .next s' → I_ep s' ∧ mu_ep s' < mu_ep s := fun s s' hI h => allR_next (ep_da s hI) h
def sel_ep : List LV → List Blk → T L_ep
  | [.xl (.pair (.int .i64) (.pair (.int .i64) (.pair (.int .i64) (.int .i64)))) l, .v (.bool up_), .v (.int .i64 n), .v (.int .i64 m), .own 0 0, .v (.int .i64 k), .v (.int .i64 e), .v (.bool in_), .v (.bool there), .xl (.pair (.int .i64) (.pair (.int .i64) (.pair (.int .i64) (.int .i64)))) q, .v (.int .i64 z), .v (.int .i64 i)], [⟨[.v (.int .i64 c_Number), .v (.int .i64 c_Contract), .v (.int .i64 c_First), .v (.int .i64 c_Last)], 40, .cl, false⟩] => .req (E_ep ⟨l, up_, n, m, k, e, in_, there, q, z, i, c_Number, c_Contract, c_First, c_Last⟩) (.ok ⟨l, up_, n, m, k, e, in_, there, q, z, i, c_Number, c_Contract, c_First, c_Last⟩)
  | _, _ => .no
theorem sel_ep_ok : ∀ vals blks s, (sel_ep vals blks).all (fun x => x = s) → E_ep s ∧ vals = A_ep s ∧ blks = B_ep s := by
  intro vals blks s h
  unfold sel_ep at h
  split at h
  · obtain ⟨h1, rfl⟩ := h
    exact ⟨h1, rfl, rfl⟩
  · cases h
def run_ep (s : L_ep) : L_ep := { (runW f_ep (mu_ep s + 1) s).2 with l := s.l, up_ := s.up_, n := s.n, m := s.m, k := s.k, e := s.e, in_ := s.in_, q := s.q, z := s.z, c_Number := s.c_Number, c_Contract := s.c_Contract, c_First := s.c_First, c_Last := s.c_Last }
theorem run_ep_eq (s : L_ep) : (runW f_ep (mu_ep s + 1) s).2 = run_ep s := by
  have hk := runW_keep (f := f_ep) P_ep (fun s s' hf => by
    unfold f_ep at hf
    repeat' split at hf
    all_goals cases hf
    all_goals rfl) (fun s x s' hf => by
    unfold f_ep at hf
    repeat' split at hf
    all_goals cases hf
    all_goals rfl) (mu_ep s + 1) s
  unfold run_ep
  generalize (runW f_ep (mu_ep s + 1) s).2 = r at *
  cases r
  simp only [P_ep, Prod.mk.injEq, true_and] at hk
  simp only [L_ep.mk.injEq, hk, and_self]
def exn_ep (s : L_ep) : Ex := (runW f_ep (mu_ep s + 1) s).1
def out_ep (s : L_ep) : T (Ex × List LV × List Blk) := .ok (.exit 0, frameOf 113 [0, 9, 10, 11, 12, 13, 14, 15, 16, 64, 65, 66] (A_ep (run_ep s)), B_ep (run_ep s))
theorem nfl_ep (s : L_ep) : backT [0, 9, 10, 11, 12, 13, 14, 15, 16, 64, 65, 66] [] (codex Try.prog noGlobs (specsOf [(10, S_head), (12, S_acc), (22, S_usab)]) noK noLoops body_ep (frameOf 113 [0, 9, 10, 11, 12, 13, 14, 15, 16, 64, 65, 66] (A_ep s)) (B_ep s)) = .br (decide (s.i < s.z)) (.req (0 ≤ s.i ∧ s.i < (List.length s.q : Int)) (.ok (⟨.normal, 113, [.xl tC s.l, .v (.bool s.up_), .v (.int .i64 s.n), .v (.int .i64 s.m), .own 0 0, .v (.int .i64 s.k), .v (.int .i64 s.e), .v (.bool s.in_), .v (.bool (s.there || ((gC s.q s.i).1 == s.m))), .xl tC s.q, .v (.int .i64 s.z), .v (.int .i64 (IntKind.i64.wrap (s.i + 1)))], [⟨[.v (.int .i64 s.c_Number), .v (.int .i64 s.c_Contract), .v (.int .i64 s.c_First), .v (.int .i64 s.c_Last)], 40, .cl, false⟩], true⟩))) (.ok (⟨.exit 0, 113, [.xl tC s.l, .v (.bool s.up_), .v (.int .i64 s.n), .v (.int .i64 s.m), .own 0 0, .v (.int .i64 s.k), .v (.int .i64 s.e), .v (.bool s.in_), .v (.bool s.there), .xl tC s.q, .v (.int .i64 s.z), .v (.int .i64 s.i)], [⟨[.v (.int .i64 s.c_Number), .v (.int .i64 s.c_Contract), .v (.int .i64 s.c_First), .v (.int .i64 s.c_Last)], 40, .cl, false⟩], true⟩)) := by kernel_rfl
theorem stp_ep (s : L_ep) (hI : I_ep s) : AllT (fun v => v = rdV 113 A_ep B_ep (f_ep s)) (backT [0, 9, 10, 11, 12, 13, 14, 15, 16, 64, 65, 66] [] (codex Try.prog noGlobs (specsOf [(10, S_head), (12, S_acc), (22, S_usab)]) noK noLoops body_ep (frameOf 113 [0, 9, 10, 11, 12, 13, 14, 15, 16, 64, 65, 66] (A_ep s)) (B_ep s))) := by
  constructor
  rw [nfl_ep]
  unfold f_ep
  exact
    stp_br (fun c1 =>
      ⟨by (obtain ⟨h1, h2, h3, h4, h5⟩ := hI; (try simp only [decide_eq_true_eq] at c1); omega),
        rfl⟩) (fun c1 =>
      rfl)
theorem ep_end (s : L_ep) (hE : E_ep s) : ∃ s', I_ep s' ∧ f_ep s' = .stop (exn_ep s) (run_ep s) := by rw [← run_ep_eq]; exact runW_stop ep_d (mu_ep s + 1) s (ep_E s hE) (Nat.lt_succ_self _)
theorem ep_same : ∀ s x s', f_ep s = .stop x s' → s = s' := by
  intro s x s' h
  unfold f_ep at h
  repeat' split at h
  all_goals first | (cases h; done) | (cases h; rfl)
theorem ep_inv (s : L_ep) (hE : E_ep s) : I_ep (run_ep s) ∧ f_ep (run_ep s) = .stop (exn_ep s) (run_ep s) := by
  obtain ⟨s', hI, hf⟩ := ep_end s hE
  have hs := ep_same _ _ _ hf
  subst hs
  exact ⟨hI, hf⟩
theorem snd_ep : Sound Try.prog noGlobs (.loop body_ep) (loopT 113 [0, 9, 10, 11, 12, 13, 14, 15, 16, 64, 65, 66] [] sel_ep out_ep) :=
  loop_view 113 [0, 9, 10, 11, 12, 13, 14, 15, 16, 64, 65, 66] [] A_ep B_ep I_ep E_ep mu_ep f_ep sel_ep out_ep (code_sound (Γ := specsOf [(10, S_head), (12, S_acc), (22, S_usab)]) (K := noK) (L := noLoops) (specs_ok (l := [(10, S_head), (12, S_acc), (22, S_usab)]) ⟨v_head, v_acc, v_usab, trivial⟩) noK_sound body_ep (fun b hb => by rw [show loopsIn body_ep = [] by kernel_rfl] at hb; cases hb))
    sel_ep_ok ep_E ep_d (fun s x s' hf => by have := ep_ex s x s' hf; intro h0; subst h0; simp at this) stp_ep (fun s hE => by
      obtain ⟨s', _, h2⟩ := ep_end s hE
      have h3 : exn_ep s = .exit 0 := ep_ex _ _ _ h2
      unfold out_ep
      rw [run_ep_eq]
      simp only [T.all, ← h3]
      rfl)
theorem ep_fin (s : L_ep) (hE : E_ep s) : ∃ s', I_ep s' ∧ Q_ep (exn_ep s) s' (run_ep s) := by
  obtain ⟨s', hI, hf⟩ := ep_end s hE
  exact ⟨s', hI, allR_stop (ep_da s' hI) hf⟩
theorem ep_any (l : List Crd) (m : Int) (st : L_ep) (hE : E_ep st) (h1 : st.q = l) (h2 : st.m = m) : (run_ep st).there = hsC l m := by
  obtain ⟨s', _, _, h3⟩ := ep_fin _ hE
  have h3 : (run_ep st).there = st.q.any (fun x => x.1 == st.m) := h3
  rw [h3, h1, h2]
  unfold hsC
  rw [Bool.eq_iff_iff, List.any_eq_true, List.find?_isSome]
theorem ep_law {l : List Crd} {m n k : Int} (hl : vlC l = true) (hm : inB m 1 1000000 = true) (hn : inB n 0 1000000 = true) (k0 : 0 ≤ k) (k1 : k < l.length) :
    (acE l [] m n != 4) = hsC l m ∧ acE l [] (gC l k).1 n = (if (decide (n ≥ (gC l k).2.2.1) && decide (n ≤ (gC l k).2.2.2)) then 0 else 15) ∧ ((decide (n ≥ (gC l k).2.2.1) && decide (n ≤ (gC l k).2.2.2)) = true → acK l [] (gC l k).1 n = (gC l k).2.1) := by
  have hkl : k.toNat < l.length := by omega
  obtain ⟨a1, a2, a3⟩ := hs_at hl hkl
  have hv : vlV [] = true := rfl
  have hr : ∀ m e, rvB [] m e = false := fun _ _ => rfl
  have hA : acE l [] (gC l k).1 n = (if (decide (n ≥ (gC l k).2.2.1) && decide (n ≤ (gC l k).2.2.2)) then 0 else 15) := by
    rw [gC_eq hkl, acE_ok hl hv a3 hn, a1, a2, hr]
    show (if true = false then (4 : Int) else if (decide (n ≥ l[k.toNat].2.2.1) && decide (n ≤ l[k.toNat].2.2.2)) = false then 15 else if false = true then 12 else 0) = _
    cases (decide (n ≥ l[k.toNat].2.2.1) && decide (n ≤ l[k.toNat].2.2.2)) <;> rfl
  refine ⟨?_, hA, fun hi => ?_⟩
  · rw [acE_ok hl hv hm hn, hr]
    cases hsC l m <;> cases inB n (fnC l m).2.2.1 (fnC l m).2.2.2 <;> rfl
  · rw [hi] at hA
    unfold acK
    rw [hA, gC_eq hkl, a2]
    rfl
def S0_l2 : List LV → T LV
  | [.xl (.pair (.int .i64) (.pair (.int .i64) (.pair (.int .i64) (.int .i64)))) l, .v (.int .u8 pk), .v (.int .u32 ep), .v (.int .u32 nu)] => .req ((0 ≤ pk ∧ pk ≤ 255) ∧ (0 ≤ ep ∧ ep ≤ 4294967295) ∧ (0 ≤ nu ∧ nu ≤ 4294967295)) (.ok (.v (.bool true)))
  | _ => .no
noncomputable def S_l2 : List LV → T LV := upS Try.prog Try.f4.params.toList S0_l2
theorem nf_l2 (l : List (Int × (Int × (Int × Int)))) (pk ep nu : Int) : funu Try.prog noGlobs (specsOf [(10, S_head), (12, S_acc), (22, S_usab)]) noK (fun i => if i = 10 then loopT 113 [0, 9, 10, 11, 12, 13, 14, 15, 16, 64, 65, 66] [] sel_ep out_ep else noLoops i) Try.f4 [.xl tC l, .v (.int .u8 pk), .v (.int .u32 ep), .v (.int .u32 nu)] = .req ((1000001 : Int) ≠ 0) (.req ((1000000 : Int) ≠ 0) (.br ((!(vlC l && (vlV ([] : List (Int × Int)) && vlV ([] : List (Int × Int))))) || ((List.length l : Int) == 0)) (.ok (.v (.bool true))) (.req ((List.length l : Int) ≠ 0) (.req (0 ≤ ((IntKind.i64.wrap pk).tmod (List.length l : Int)) ∧ ((IntKind.i64.wrap pk).tmod (List.length l : Int)) < (List.length l : Int)) (.req ((List.length l : Int) ≤ 1000 ∧ (List.length ([] : List (Int × Int)) : Int) ≤ 1000) (.req (E_ep (⟨l, true, ((IntKind.i64.wrap ep).tmod 1000001), (IntKind.i64.wrap (1 + ((IntKind.i64.wrap nu).tmod 1000000))), (acK l ([] : List (Int × Int)) (gC l ((IntKind.i64.wrap pk).tmod (List.length l : Int))).1 ((IntKind.i64.wrap ep).tmod 1000001)), (acE l ([] : List (Int × Int)) (gC l ((IntKind.i64.wrap pk).tmod (List.length l : Int))).1 ((IntKind.i64.wrap ep).tmod 1000001)), ((decide (((IntKind.i64.wrap ep).tmod 1000001) ≥ (gC l ((IntKind.i64.wrap pk).tmod (List.length l : Int))).2.2.1)) && (decide (((IntKind.i64.wrap ep).tmod 1000001) ≤ (gC l ((IntKind.i64.wrap pk).tmod (List.length l : Int))).2.2.2))), false, l, (List.length l : Int), (0 : Int), (gC l ((IntKind.i64.wrap pk).tmod (List.length l : Int))).1, (gC l ((IntKind.i64.wrap pk).tmod (List.length l : Int))).2.1, (gC l ((IntKind.i64.wrap pk).tmod (List.length l : Int))).2.2.1, (gC l ((IntKind.i64.wrap pk).tmod (List.length l : Int))).2.2.2⟩ : L_ep)) (.req ((List.length l : Int) ≤ 1000 ∧ (List.length ([] : List (Int × Int)) : Int) ≤ 1000) (.ok (.v (.bool (true && (if ((decide (((IntKind.i64.wrap ep).tmod 1000001) ≥ (gC l ((IntKind.i64.wrap pk).tmod (List.length l : Int))).2.2.1)) && (decide (((IntKind.i64.wrap ep).tmod 1000001) ≤ (gC l ((IntKind.i64.wrap pk).tmod (List.length l : Int))).2.2.2))) then if (acE l ([] : List (Int × Int)) (gC l ((IntKind.i64.wrap pk).tmod (List.length l : Int))).1 ((IntKind.i64.wrap ep).tmod 1000001)) == 0 then if (acK l ([] : List (Int × Int)) (gC l ((IntKind.i64.wrap pk).tmod (List.length l : Int))).1 ((IntKind.i64.wrap ep).tmod 1000001)) == (gC l ((IntKind.i64.wrap pk).tmod (List.length l : Int))).2.1 then (run_ep (⟨l, true, ((IntKind.i64.wrap ep).tmod 1000001), (IntKind.i64.wrap (1 + ((IntKind.i64.wrap nu).tmod 1000000))), (acK l ([] : List (Int × Int)) (gC l ((IntKind.i64.wrap pk).tmod (List.length l : Int))).1 ((IntKind.i64.wrap ep).tmod 1000001)), (acE l ([] : List (Int × Int)) (gC l ((IntKind.i64.wrap pk).tmod (List.length l : Int))).1 ((IntKind.i64.wrap ep).tmod 1000001)), ((decide (((IntKind.i64.wrap ep).tmod 1000001) ≥ (gC l ((IntKind.i64.wrap pk).tmod (List.length l : Int))).2.2.1)) && (decide (((IntKind.i64.wrap ep).tmod 1000001) ≤ (gC l ((IntKind.i64.wrap pk).tmod (List.length l : Int))).2.2.2))), false, l, (List.length l : Int), (0 : Int), (gC l ((IntKind.i64.wrap pk).tmod (List.length l : Int))).1, (gC l ((IntKind.i64.wrap pk).tmod (List.length l : Int))).2.1, (gC l ((IntKind.i64.wrap pk).tmod (List.length l : Int))).2.2.1, (gC l ((IntKind.i64.wrap pk).tmod (List.length l : Int))).2.2.2⟩ : L_ep)).there == ((acE l ([] : List (Int × Int)) (IntKind.i64.wrap (1 + ((IntKind.i64.wrap nu).tmod 1000000))) ((IntKind.i64.wrap ep).tmod 1000001)) != 4) else (!((decide (((IntKind.i64.wrap ep).tmod 1000001) ≥ (gC l ((IntKind.i64.wrap pk).tmod (List.length l : Int))).2.2.1)) && (decide (((IntKind.i64.wrap ep).tmod 1000001) ≤ (gC l ((IntKind.i64.wrap pk).tmod (List.length l : Int))).2.2.2)))) && (((acE l ([] : List (Int × Int)) (gC l ((IntKind.i64.wrap pk).tmod (List.length l : Int))).1 ((IntKind.i64.wrap ep).tmod 1000001)) == 15) && ((run_ep (⟨l, true, ((IntKind.i64.wrap ep).tmod 1000001), (IntKind.i64.wrap (1 + ((IntKind.i64.wrap nu).tmod 1000000))), (acK l ([] : List (Int × Int)) (gC l ((IntKind.i64.wrap pk).tmod (List.length l : Int))).1 ((IntKind.i64.wrap ep).tmod 1000001)), (acE l ([] : List (Int × Int)) (gC l ((IntKind.i64.wrap pk).tmod (List.length l : Int))).1 ((IntKind.i64.wrap ep).tmod 1000001)), ((decide (((IntKind.i64.wrap ep).tmod 1000001) ≥ (gC l ((IntKind.i64.wrap pk).tmod (List.length l : Int))).2.2.1)) && (decide (((IntKind.i64.wrap ep).tmod 1000001) ≤ (gC l ((IntKind.i64.wrap pk).tmod (List.length l : Int))).2.2.2))), false, l, (List.length l : Int), (0 : Int), (gC l ((IntKind.i64.wrap pk).tmod (List.length l : Int))).1, (gC l ((IntKind.i64.wrap pk).tmod (List.length l : Int))).2.1, (gC l ((IntKind.i64.wrap pk).tmod (List.length l : Int))).2.2.1, (gC l ((IntKind.i64.wrap pk).tmod (List.length l : Int))).2.2.2⟩ : L_ep)).there == ((acE l ([] : List (Int × Int)) (IntKind.i64.wrap (1 + ((IntKind.i64.wrap nu).tmod 1000000))) ((IntKind.i64.wrap ep).tmod 1000001)) != 4))) else (!((decide (((IntKind.i64.wrap ep).tmod 1000001) ≥ (gC l ((IntKind.i64.wrap pk).tmod (List.length l : Int))).2.2.1)) && (decide (((IntKind.i64.wrap ep).tmod 1000001) ≤ (gC l ((IntKind.i64.wrap pk).tmod (List.length l : Int))).2.2.2)))) && (((acE l ([] : List (Int × Int)) (gC l ((IntKind.i64.wrap pk).tmod (List.length l : Int))).1 ((IntKind.i64.wrap ep).tmod 1000001)) == 15) && ((run_ep (⟨l, true, ((IntKind.i64.wrap ep).tmod 1000001), (IntKind.i64.wrap (1 + ((IntKind.i64.wrap nu).tmod 1000000))), (acK l ([] : List (Int × Int)) (gC l ((IntKind.i64.wrap pk).tmod (List.length l : Int))).1 ((IntKind.i64.wrap ep).tmod 1000001)), (acE l ([] : List (Int × Int)) (gC l ((IntKind.i64.wrap pk).tmod (List.length l : Int))).1 ((IntKind.i64.wrap ep).tmod 1000001)), ((decide (((IntKind.i64.wrap ep).tmod 1000001) ≥ (gC l ((IntKind.i64.wrap pk).tmod (List.length l : Int))).2.2.1)) && (decide (((IntKind.i64.wrap ep).tmod 1000001) ≤ (gC l ((IntKind.i64.wrap pk).tmod (List.length l : Int))).2.2.2))), false, l, (List.length l : Int), (0 : Int), (gC l ((IntKind.i64.wrap pk).tmod (List.length l : Int))).1, (gC l ((IntKind.i64.wrap pk).tmod (List.length l : Int))).2.1, (gC l ((IntKind.i64.wrap pk).tmod (List.length l : Int))).2.2.1, (gC l ((IntKind.i64.wrap pk).tmod (List.length l : Int))).2.2.2⟩ : L_ep)).there == ((acE l ([] : List (Int × Int)) (IntKind.i64.wrap (1 + ((IntKind.i64.wrap nu).tmod 1000000))) ((IntKind.i64.wrap ep).tmod 1000001)) != 4))) else (!((decide (((IntKind.i64.wrap ep).tmod 1000001) ≥ (gC l ((IntKind.i64.wrap pk).tmod (List.length l : Int))).2.2.1)) && (decide (((IntKind.i64.wrap ep).tmod 1000001) ≤ (gC l ((IntKind.i64.wrap pk).tmod (List.length l : Int))).2.2.2)))) && (((acE l ([] : List (Int × Int)) (gC l ((IntKind.i64.wrap pk).tmod (List.length l : Int))).1 ((IntKind.i64.wrap ep).tmod 1000001)) == 15) && ((run_ep (⟨l, true, ((IntKind.i64.wrap ep).tmod 1000001), (IntKind.i64.wrap (1 + ((IntKind.i64.wrap nu).tmod 1000000))), (acK l ([] : List (Int × Int)) (gC l ((IntKind.i64.wrap pk).tmod (List.length l : Int))).1 ((IntKind.i64.wrap ep).tmod 1000001)), (acE l ([] : List (Int × Int)) (gC l ((IntKind.i64.wrap pk).tmod (List.length l : Int))).1 ((IntKind.i64.wrap ep).tmod 1000001)), ((decide (((IntKind.i64.wrap ep).tmod 1000001) ≥ (gC l ((IntKind.i64.wrap pk).tmod (List.length l : Int))).2.2.1)) && (decide (((IntKind.i64.wrap ep).tmod 1000001) ≤ (gC l ((IntKind.i64.wrap pk).tmod (List.length l : Int))).2.2.2))), false, l, (List.length l : Int), (0 : Int), (gC l ((IntKind.i64.wrap pk).tmod (List.length l : Int))).1, (gC l ((IntKind.i64.wrap pk).tmod (List.length l : Int))).2.1, (gC l ((IntKind.i64.wrap pk).tmod (List.length l : Int))).2.2.1, (gC l ((IntKind.i64.wrap pk).tmod (List.length l : Int))).2.2.2⟩ : L_ep)).there == ((acE l ([] : List (Int × Int)) (IntKind.i64.wrap (1 + ((IntKind.i64.wrap nu).tmod 1000000))) ((IntKind.i64.wrap ep).tmod 1000001)) != 4))))))))))))))) := by kernel_rfl
theorem v_l2 : Valid Try.prog noGlobs 4 S_l2 := valid_ofu Try.func4 rfl (specs_ok (l := [(10, S_head), (12, S_acc), (22, S_usab)]) ⟨v_head, v_acc, v_usab, trivial⟩) noK_sound (L := (fun i => if i = 10 then loopT 113 [0, 9, 10, 11, 12, 13, 14, 15, 16, 64, 65, 66] [] sel_ep out_ep else noLoops i)) (fun b hb => by
  rw [show loopsIn _ = [body_ep] by kernel_rfl] at hb
  simp only [List.mem_cons, List.not_mem_nil, or_false] at hb
  subst hb
  exact snd_ep) (fun args lv h => by
  unfold S0_l2 at h
  split at h
  · simp only [canL, canX]
    rw [nf_l2]
    rename_i l pk ep nu
    obtain ⟨⟨⟨p0, p1⟩, ⟨e0, e1⟩, n0, n1⟩, rfl⟩ := h
    refine ⟨by decide, by decide, fun _ => rfl, fun c => ?_⟩
    simp only [Bool.or_eq_false_iff, Bool.not_eq_false', Bool.and_eq_true, beq_eq_false_iff_ne] at c
    obtain ⟨⟨hl, hv, _⟩, hne⟩ := c
    obtain ⟨hn, hn'⟩ := num_of n0 n1
    obtain ⟨he, he'⟩ := ep_of e0 e1
    obtain ⟨k, hk, k0, k1⟩ := pk_of (l := l) p0 p1 (by omega)
    have h1 : (List.length l : Int) ≤ 1000 := by have := (vC_iff.1 hl).1; omega
    have h0 : (List.length ([] : List (Int × Int)) : Int) ≤ 1000 := by decide
    rw [hn, he, hk]
    generalize 1 + nu % 1000000 = m at *
    generalize ep % 1000001 = n at *
    obtain ⟨w1, w2, w3⟩ := ep_law hl hn' he' k0 k1
    refine ⟨hne, ⟨k0, k1⟩, ⟨h1, h0⟩, ⟨rfl, rfl, h1, rfl⟩, ⟨h1, h0⟩, congrArg (fun z => LV.v (.bool z)) ?_⟩
    rw [ep_any l m _ ⟨rfl, rfl, h1, rfl⟩ rfl rfl, w1, w2]
    cases hi : (decide (n ≥ (gC l k).2.2.1) && decide (n ≤ (gC l k).2.2.2))
    · simp
    · simp [w3 hi]
  · cases h)
end Go.Proofs.Ytcpadfehoaopaaa
