/- CardsLate: what it computes. -/
import Derived.Test.YtcpadfehoaopaaaBq
import Derived.Test.YtcpadfehoaopaaaBs
namespace Go.Proofs.Ytcpadfehoaopaaa
open Go.Sx
structure L_lla where
  l : List (Int × (Int × (Int × Int)))
  known : List (Int × Int)
  void : List (Int × Int)
  r : Bool
  up_ : Bool
  n : Int
  all : List (Int × Int)
  late : List Int
  k : Int
  q : List (Int × (Int × (Int × Int)))
  z : Int
  i : Int
def A_lla (s : L_lla) : List LV := [.xl tC s.l, .xl tV s.known, .xl tV s.void, .v (.bool s.r), .v (.bool s.up_), .v (.int .i64 s.n), .xl tV s.all, .xl (.int .i64) s.late, .v (.int .i64 s.k), .xl tC s.q, .v (.int .i64 s.z), .v (.int .i64 s.i)]
def B_lla (s : L_lla) : List Blk := []
noncomputable def body_lla : Code := ((loopsIn (Try.f8.body.getD .skip))[0]?).getD .skip
def f_lla (s : L_lla) : Rd L_lla :=
  if (decide (s.i < s.z)) then
    if (acE s.l s.known (gC s.q s.i).1 s.n == 0) then
      if (!(acE s.l s.all (gC s.q s.i).1 s.n == 0)) then
        if (decide (s.k ≥ (List.length s.late : Int))) then
          .stop (.ret) { s with r := false }
        else
          if ((gi s.late s.k) != (gC s.q s.i).1) then
            .stop (.ret) { s with r := false }
          else
            .next { s with k := (IntKind.i64.wrap (s.k + 1)), i := (IntKind.i64.wrap (s.i + 1)) }
      else
        .next { s with i := (IntKind.i64.wrap (s.i + 1)) }
    else
      .next { s with i := (IntKind.i64.wrap (s.i + 1)) }
  else
    .stop (.exit 0) s
def P_lla (s : L_lla) := ((), s.l, s.known, s.void, s.up_, s.n, s.all, s.late, s.q, s.z)
theorem lla_ex : ∀ s x s', f_lla s = .stop x s' → x = .ret ∨ x = .exit 0 := by
  intro s x s' h
  unfold f_lla at h
  repeat' split at h
  all_goals first | (cases h; done) | (cases h; rfl) | (cases h; simp)
def E_lla (s : L_lla) : Prop := s.i = 0 ∧ s.k = 0 ∧ s.z = s.l.length ∧ s.z ≤ 1000 ∧ s.q = s.l ∧ vlC s.l = true ∧ vlV s.known = true ∧ vlV s.void = true ∧ inB s.n 0 1000000 = true ∧ joE s.known s.void = 0 ∧ s.all = joL s.known s.void ∧ s.late = ltL s.l s.known s.void s.n
def I_lla (s : L_lla) : Prop := (0 ≤ s.i ∧ s.i ≤ s.z) ∧ s.k = (ltL (s.l.take s.i.toNat) s.known s.void s.n).length ∧ s.z = s.l.length ∧ s.z ≤ 1000 ∧ s.q = s.l ∧ vlC s.l = true ∧ vlV s.known = true ∧ vlV s.void = true ∧ inB s.n 0 1000000 = true ∧ joE s.known s.void = 0 ∧ s.all = joL s.known s.void ∧ s.late = ltL s.l s.known s.void s.n
def mu_lla (s : L_lla) : Nat := (s.z - s.i).toNat
def Q_lla (x : Ex) (s s' : L_lla) : Prop := x = .exit 0 ∧ s'.k = s'.late.length
theorem lla_E : ∀ s, E_lla s → I_lla s := by
  intro s h
  obtain ⟨h1, h2, h3⟩ := h
  have := h3.1
  exact ⟨⟨by omega, by omega⟩, by rw [h1, h2]; rfl, h3⟩
theorem lla_da (s : L_lla) (hI : I_lla s) : allR (fun s' => I_lla s' ∧ mu_lla s' < mu_lla s) (fun x s' => Q_lla x s s') (f_lla s) := by
  unfold f_lla
  obtain ⟨⟨h1, h2⟩, hk, R⟩ := hI
  have RR := R
  obtain ⟨h3, h4, h5, h6, h7, h8, h9, h10, h11, h12⟩ := R
  refine allR_ite (fun c1 => ?_) (fun c1 => ?_)
  rotate_left
  · have c1 : s.z ≤ s.i := by simpa using c1
    exact ⟨rfl, by rw [hk, h12, List.take_of_length_le (by omega)]⟩
  have c1 : s.i < s.z := by simpa using c1
  have hlt : s.i.toNat < s.l.length := by omega
  have ha := late_iff h6 h7 h8 h9 h10 hlt
  have hb := ltL_at (l := s.l) (o := s.known) (v := s.void) (e := s.n) hlt
  have hw := (gC_step h1 (show s.i < s.l.length by omega)).2
  rw [gC_eq hlt] at hw
  have hg : gC s.q s.i = s.l[s.i.toNat] := by rw [h5, gC_eq hlt]
  rw [← h11] at ha
  rw [wrapS (x := s.i + 1) (by omega) (by omega), hg]
  have hT : ∀ b, lateB s.known s.void s.n s.l[s.i.toNat] = b → (ltL (s.l.take (s.i + 1).toNat) s.known s.void s.n).length = (ltL (s.l.take s.i.toNat) s.known s.void s.n).length + (if b then 1 else 0) := fun b hb => by
    rw [hw]
    simp only [ltL_eq, List.filter_append, List.map_append, List.length_append, List.filter_cons, hb]
    cases b <;> rfl
  have stay : lateB s.known s.void s.n s.l[s.i.toNat] = false → I_lla { s with i := s.i + 1 } ∧ mu_lla { s with i := s.i + 1 } < mu_lla s := fun hf => by
    refine ⟨⟨⟨by simp only; omega, by simp only; omega⟩, ?_, RR⟩, by simp only [mu_lla]; omega⟩
    simp only
    rw [hT false hf, hk]
    rfl
  refine allR_ite (fun c2 => ?_) (fun c2 => ?_)
  rotate_left
  · refine stay ?_
    rw [← ha, c2]; rfl
  refine allR_ite (fun c3 => ?_) (fun c3 => ?_)
  rotate_left
  · refine stay ?_
    rw [← ha, c3]; simp
  have ht : lateB s.known s.void s.n s.l[s.i.toNat] = true := by rw [← ha, c2, c3]; rfl
  rw [ht, if_pos rfl] at hb
  refine allR_ite (fun c4 => ?_) (fun c4 => ?_)
  · exfalso
    have hl := congrArg List.length hb
    rw [← h12] at hl
    simp only [List.length_append, List.length_cons, List.length_nil] at hl
    simp at c4
    omega
  have hq : gi s.late s.k = s.l[s.i.toNat].1 := by
    rw [h12, hb]
    unfold gi
    rw [hk]
    simp
  refine allR_ite (fun c5 => ?_) (fun c5 => ?_)
  · rw [hq] at c5; simp at c5
  have hkk : s.k < 1000 := by
    have hl := congrArg List.length hb
    have hz : (ltL s.l s.known s.void s.n).length ≤ s.l.length := by unfold ltL; rw [List.length_map]; exact List.length_filter_le _ _
    simp only [List.length_append, List.length_cons, List.length_nil] at hl
    omega
  rw [wrapS (x := s.k + 1) (by omega) (by omega)]
  refine ⟨⟨⟨by simp only; omega, by simp only; omega⟩, ?_, RR⟩, by simp only [mu_lla]; omega⟩
  simp only
  rw [hT true ht, hk]
  rfl
theorem lla_d : ∀ s s', I_lla s → f_lla s = .next s' → I_lla s' ∧ mu_lla s' < mu_lla s := fun s s' hI h => allR_next (lla_da s hI) h
def sel_lla : List LV → List Blk → T L_lla
  | [.xl (.pair (.int .i64) (.pair (.int .i64) (.pair (.int .i64) (.int .i64)))) l, .xl (.pair (.int .i64) (.int .i64)) known, .xl (.pair (.int .i64) (.int .i64)) void, .v (.bool r), .v (.bool up_), .v (.int .i64 n), .xl (.pair (.int .i64) (.int .i64)) all, .xl (.int .i64) late, .v (.int .i64 k), .xl (.pair (.int .i64) (.pair (.int .i64) (.pair (.int .i64) (.int .i64)))) q, .v (.int .i64 z), .v (.int .i64 i)], [] => .req (E_lla ⟨l, known, void, r, up_, n, all, late, k, q, z, i⟩) (.ok ⟨l, known, void, r, up_, n, all, late, k, q, z, i⟩)
  | _, _ => .no
theorem sel_lla_ok : ∀ vals blks s, (sel_lla vals blks).all (fun x => x = s) → E_lla s ∧ vals = A_lla s ∧ blks = B_lla s := by
  intro vals blks s h
  unfold sel_lla at h
  split at h
  · obtain ⟨h1, rfl⟩ := h
    exact ⟨h1, rfl, rfl⟩
  · cases h
def run_lla (s : L_lla) : L_lla := { (runW f_lla (mu_lla s + 1) s).2 with l := s.l, known := s.known, void := s.void, up_ := s.up_, n := s.n, all := s.all, late := s.late, q := s.q, z := s.z }
theorem run_lla_eq (s : L_lla) : (runW f_lla (mu_lla s + 1) s).2 = run_lla s := by
  have hk := runW_keep (f := f_lla) P_lla (fun s s' hf => by
    unfold f_lla at hf
    repeat' split at hf
    all_goals cases hf
    all_goals rfl) (fun s x s' hf => by
    unfold f_lla at hf
    repeat' split at hf
    all_goals cases hf
    all_goals rfl) (mu_lla s + 1) s
  unfold run_lla
  generalize (runW f_lla (mu_lla s + 1) s).2 = r at *
  cases r
  simp only [P_lla, Prod.mk.injEq, true_and] at hk
  simp only [L_lla.mk.injEq, hk, and_self]
def exn_lla (s : L_lla) : Ex := (runW f_lla (mu_lla s + 1) s).1
def out_lla (s : L_lla) : T (Ex × List LV × List Blk) := .br (isEx (exn_lla s) (.ret)) (.ok (.ret, frameOf 110 [0, 1, 2, 8, 9, 10, 11, 13, 15, 49, 50, 51] (A_lla (run_lla s)), B_lla (run_lla s))) (.ok (.exit 0, frameOf 110 [0, 1, 2, 8, 9, 10, 11, 13, 15, 49, 50, 51] (A_lla (run_lla s)), B_lla (run_lla s)))
theorem nfl_lla (s : L_lla) : backT [0, 1, 2, 8, 9, 10, 11, 13, 15, 49, 50, 51] [] (codex Try.prog noGlobs (specsOf [(10, S_head), (14, S_join), (16, S_late), (22, S_usab), (23, S_accs)]) noK noLoops body_lla (frameOf 110 [0, 1, 2, 8, 9, 10, 11, 13, 15, 49, 50, 51] (A_lla s)) (B_lla s)) = .br (decide (s.i < s.z)) (.req (0 ≤ s.i ∧ s.i < (List.length s.q : Int)) (.req ((List.length s.l : Int) ≤ 1000 ∧ (List.length s.known : Int) ≤ 1000) (.br (acE s.l s.known (gC s.q s.i).1 s.n == 0) (.req ((List.length s.l : Int) ≤ 1000 ∧ (List.length s.all : Int) ≤ 1000) (.br (!(acE s.l s.all (gC s.q s.i).1 s.n == 0)) (.br (decide (s.k ≥ (List.length s.late : Int))) (.ok (⟨.ret, 110, [.xl tC s.l, .xl tV s.known, .xl tV s.void, .v (.bool false), .v (.bool s.up_), .v (.int .i64 s.n), .xl tV s.all, .xl (.int .i64) s.late, .v (.int .i64 s.k), .xl tC s.q, .v (.int .i64 s.z), .v (.int .i64 s.i)], [], true⟩)) (.req (0 ≤ s.k ∧ s.k < (List.length s.late : Int)) (.br ((gi s.late s.k) != (gC s.q s.i).1) (.ok (⟨.ret, 110, [.xl tC s.l, .xl tV s.known, .xl tV s.void, .v (.bool false), .v (.bool s.up_), .v (.int .i64 s.n), .xl tV s.all, .xl (.int .i64) s.late, .v (.int .i64 s.k), .xl tC s.q, .v (.int .i64 s.z), .v (.int .i64 s.i)], [], true⟩)) (.ok (⟨.normal, 110, [.xl tC s.l, .xl tV s.known, .xl tV s.void, .v (.bool s.r), .v (.bool s.up_), .v (.int .i64 s.n), .xl tV s.all, .xl (.int .i64) s.late, .v (.int .i64 (IntKind.i64.wrap (s.k + 1))), .xl tC s.q, .v (.int .i64 s.z), .v (.int .i64 (IntKind.i64.wrap (s.i + 1)))], [], true⟩))))) (.ok (⟨.normal, 110, [.xl tC s.l, .xl tV s.known, .xl tV s.void, .v (.bool s.r), .v (.bool s.up_), .v (.int .i64 s.n), .xl tV s.all, .xl (.int .i64) s.late, .v (.int .i64 s.k), .xl tC s.q, .v (.int .i64 s.z), .v (.int .i64 (IntKind.i64.wrap (s.i + 1)))], [], true⟩)))) (.ok (⟨.normal, 110, [.xl tC s.l, .xl tV s.known, .xl tV s.void, .v (.bool s.r), .v (.bool s.up_), .v (.int .i64 s.n), .xl tV s.all, .xl (.int .i64) s.late, .v (.int .i64 s.k), .xl tC s.q, .v (.int .i64 s.z), .v (.int .i64 (IntKind.i64.wrap (s.i + 1)))], [], true⟩))))) (.ok (⟨.exit 0, 110, [.xl tC s.l, .xl tV s.known, .xl tV s.void, .v (.bool s.r), .v (.bool s.up_), .v (.int .i64 s.n), .xl tV s.all, .xl (.int .i64) s.late, .v (.int .i64 s.k), .xl tC s.q, .v (.int .i64 s.z), .v (.int .i64 s.i)], [], true⟩)) := by kernel_rfl
theorem stp_lla (s : L_lla) (hI : I_lla s) : AllT (fun v => v = rdV 110 A_lla B_lla (f_lla s)) (backT [0, 1, 2, 8, 9, 10, 11, 13, 15, 49, 50, 51] [] (codex Try.prog noGlobs (specsOf [(10, S_head), (14, S_join), (16, S_late), (22, S_usab), (23, S_accs)]) noK noLoops body_lla (frameOf 110 [0, 1, 2, 8, 9, 10, 11, 13, 15, 49, 50, 51] (A_lla s)) (B_lla s))) := by
  constructor
  rw [nfl_lla]
  unfold f_lla
  exact
    stp_br (fun c1 =>
      ⟨by (obtain ⟨⟨h1, h2⟩, hk, h3, h4, h5, h6, h7, h8, h9, h10, h11, h12⟩ := hI; (try simp only [decide_eq_true_eq, decide_eq_false_iff_not] at *); (first | omega | (rw [h5]; omega) | (refine ⟨by omega, ?_⟩; have := (vV_iff.1 h7).1; omega) | (refine ⟨by omega, ?_⟩; rw [h11]; have := joL_len s.known s.void; omega))),
        ⟨by (obtain ⟨⟨h1, h2⟩, hk, h3, h4, h5, h6, h7, h8, h9, h10, h11, h12⟩ := hI; (try simp only [decide_eq_true_eq, decide_eq_false_iff_not] at *); (first | omega | (rw [h5]; omega) | (refine ⟨by omega, ?_⟩; have := (vV_iff.1 h7).1; omega) | (refine ⟨by omega, ?_⟩; rw [h11]; have := joL_len s.known s.void; omega))),
          stp_br (fun c2 =>
            ⟨by (obtain ⟨⟨h1, h2⟩, hk, h3, h4, h5, h6, h7, h8, h9, h10, h11, h12⟩ := hI; (try simp only [decide_eq_true_eq, decide_eq_false_iff_not] at *); (first | omega | (rw [h5]; omega) | (refine ⟨by omega, ?_⟩; have := (vV_iff.1 h7).1; omega) | (refine ⟨by omega, ?_⟩; rw [h11]; have := joL_len s.known s.void; omega))),
              stp_br (fun c3 =>
                stp_br (fun c4 =>
                  rfl) (fun c4 =>
                  ⟨by (obtain ⟨⟨h1, h2⟩, hk, h3, h4, h5, h6, h7, h8, h9, h10, h11, h12⟩ := hI; (try simp only [decide_eq_true_eq, decide_eq_false_iff_not] at *); (first | omega | (rw [h5]; omega) | (refine ⟨by omega, ?_⟩; have := (vV_iff.1 h7).1; omega) | (refine ⟨by omega, ?_⟩; rw [h11]; have := joL_len s.known s.void; omega))),
                    stp_br (fun c5 =>
                      rfl) (fun c5 =>
                      rfl)⟩)) (fun c3 =>
                rfl)⟩) (fun c2 =>
            rfl)⟩⟩) (fun c1 =>
      rfl)
theorem lla_end (s : L_lla) (hE : E_lla s) : ∃ s', I_lla s' ∧ f_lla s' = .stop (exn_lla s) (run_lla s) := by rw [← run_lla_eq]; exact runW_stop lla_d (mu_lla s + 1) s (lla_E s hE) (Nat.lt_succ_self _)
theorem snd_lla : Sound Try.prog noGlobs (.loop body_lla) (loopT 110 [0, 1, 2, 8, 9, 10, 11, 13, 15, 49, 50, 51] [] sel_lla out_lla) :=
  loop_view 110 [0, 1, 2, 8, 9, 10, 11, 13, 15, 49, 50, 51] [] A_lla B_lla I_lla E_lla mu_lla f_lla sel_lla out_lla (code_sound (Γ := specsOf [(10, S_head), (14, S_join), (16, S_late), (22, S_usab), (23, S_accs)]) (K := noK) (L := noLoops) (specs_ok (l := [(10, S_head), (14, S_join), (16, S_late), (22, S_usab), (23, S_accs)]) ⟨v_head, v_join, v_late, v_usab, v_accs, trivial⟩) noK_sound body_lla (fun b hb => by rw [show loopsIn body_lla = [] by kernel_rfl] at hb; cases hb))
    sel_lla_ok lla_E lla_d (fun s x s' hf => by have := lla_ex s x s' hf; intro h0; subst h0; simp at this) stp_lla (fun s hE => by
      obtain ⟨s', _, h2⟩ := lla_end s hE
      have h3 := lla_ex _ _ _ h2
      have h4 : (runW f_lla (mu_lla s + 1) s).1 = exn_lla s := rfl
      rw [h4, run_lla_eq]
      unfold out_lla
      generalize exn_lla s = e at h3
      rcases h3 with h3 | h3 <;> subst h3 <;> simp [T.all, isEx])
theorem lla_fin (s : L_lla) (hE : E_lla s) : ∃ s', I_lla s' ∧ Q_lla (exn_lla s) s' (run_lla s) := by
  obtain ⟨s', hI, hf⟩ := lla_end s hE
  exact ⟨s', hI, allR_stop (lla_da s' hI) hf⟩
def S0_l6 : List LV → T LV
  | [.xl (.pair (.int .i64) (.pair (.int .i64) (.pair (.int .i64) (.int .i64)))) l, .xl (.pair (.int .i64) (.int .i64)) o, .xl (.pair (.int .i64) (.int .i64)) v, .v (.int .u32 ep)] => .req (0 ≤ ep ∧ ep ≤ 4294967295) (.ok (.v (.bool true)))
  | _ => .no
noncomputable def S_l6 : List LV → T LV := upS Try.prog Try.f8.params.toList S0_l6
theorem nf_l6 (l : List (Int × (Int × (Int × Int)))) (o v : List (Int × Int)) (ep : Int) : funu Try.prog noGlobs (specsOf [(10, S_head), (14, S_join), (16, S_late), (22, S_usab), (23, S_accs)]) noK (fun i => if i = 13 then loopT 110 [0, 1, 2, 8, 9, 10, 11, 13, 15, 49, 50, 51] [] sel_lla out_lla else noLoops i) Try.f8 [.xl tC l, .xl tV o, .xl tV v, .v (.int .u32 ep)] = .req ((1000001 : Int) ≠ 0) (.br (!(vlC l && (vlV o && vlV v))) (.ok (.v (.bool true))) (.req ((List.length o : Int) ≤ 1000 ∧ (List.length v : Int) ≤ 1000) (.req ((List.length l : Int) ≤ 1000 ∧ (List.length o : Int) ≤ 1000 ∧ (List.length v : Int) ≤ 1000) (.br ((ltE l o v ((IntKind.i64.wrap ep).tmod 1000001)) != 0) (.ok (.v (.bool false))) (.br ((joE o v) != 0) (.ok (.v (.bool true))) (.req (E_lla (⟨l, o, v, false, true, ((IntKind.i64.wrap ep).tmod 1000001), (joL o v), (ltM l o v ((IntKind.i64.wrap ep).tmod 1000001)), (0 : Int), l, (List.length l : Int), (0 : Int)⟩ : L_lla)) (.br (isEx (exn_lla (⟨l, o, v, false, true, ((IntKind.i64.wrap ep).tmod 1000001), (joL o v), (ltM l o v ((IntKind.i64.wrap ep).tmod 1000001)), (0 : Int), l, (List.length l : Int), (0 : Int)⟩ : L_lla)) (.ret)) (.ok (.v (.bool (run_lla (⟨l, o, v, false, true, ((IntKind.i64.wrap ep).tmod 1000001), (joL o v), (ltM l o v ((IntKind.i64.wrap ep).tmod 1000001)), (0 : Int), l, (List.length l : Int), (0 : Int)⟩ : L_lla)).r))) (.req ((List.length l : Int) ≤ 1000 ∧ (List.length (joL o v) : Int) ≤ 1000 ∧ (List.length v : Int) ≤ 1000) (.ok (.v (.bool (true && (((run_lla (⟨l, o, v, false, true, ((IntKind.i64.wrap ep).tmod 1000001), (joL o v), (ltM l o v ((IntKind.i64.wrap ep).tmod 1000001)), (0 : Int), l, (List.length l : Int), (0 : Int)⟩ : L_lla)).k == (List.length (ltM l o v ((IntKind.i64.wrap ep).tmod 1000001)) : Int)) && (((ltE l (joL o v) v ((IntKind.i64.wrap ep).tmod 1000001)) == 0) && ((List.length (ltM l (joL o v) v ((IntKind.i64.wrap ep).tmod 1000001)) : Int) == 0))))))))))))))) := by kernel_rfl
theorem v_l6 : Valid Try.prog noGlobs 8 S_l6 := valid_ofu Try.func8 rfl (specs_ok (l := [(10, S_head), (14, S_join), (16, S_late), (22, S_usab), (23, S_accs)]) ⟨v_head, v_join, v_late, v_usab, v_accs, trivial⟩) noK_sound (L := (fun i => if i = 13 then loopT 110 [0, 1, 2, 8, 9, 10, 11, 13, 15, 49, 50, 51] [] sel_lla out_lla else noLoops i)) (fun b hb => by
  rw [show loopsIn _ = [body_lla] by kernel_rfl] at hb
  simp only [List.mem_cons, List.not_mem_nil, or_false] at hb
  subst hb
  exact snd_lla) (fun args lv h => by
  unfold S0_l6 at h
  split at h
  · simp only [canL, canX]
    rw [nf_l6]
    rename_i l o v ep
    obtain ⟨⟨e0, e1⟩, rfl⟩ := h
    obtain ⟨he, he'⟩ := ep_of e0 e1
    rw [he]
    generalize ep % 1000001 = n at *
    refine ⟨by decide, fun _ => rfl, fun c => ?_⟩
    simp only [Bool.not_eq_false', Bool.and_eq_true] at c
    obtain ⟨hl, ho, hv⟩ := c
    have h1 : (List.length l : Int) ≤ 1000 := by have := (vC_iff.1 hl).1; omega
    have h2 : (List.length o : Int) ≤ 1000 := by have := (vV_iff.1 ho).1; omega
    have h3 : (List.length v : Int) ≤ 1000 := by have := (vV_iff.1 hv).1; omega
    have h4 : (List.length (joL o v) : Int) ≤ 1000 := by have := joL_len o v; omega
    have hc : (vlC l && (vlV o && (vlV v && inB n 0 1000000))) = true := by rw [hl, ho, hv, he']; rfl
    have m1 : ltM l o v n = ltL l o v n := by unfold ltM; rw [if_pos hc]
    have m2 : ltE l o v n = 0 := by unfold ltE; rw [if_pos hc]
    refine ⟨⟨h2, h3⟩, ⟨h1, h2, h3⟩, fun c => ?_, fun _ => ⟨fun _ => rfl, fun c => ?_⟩⟩
    · rw [m2] at c; cases c
    have c : joE o v = 0 := by simpa using c
    have hj := (jo_again ho hv c).2.2
    have hc' : (vlC l && (vlV (joL o v) && (vlV v && inB n 0 1000000))) = true := by rw [hl, hj, hv, he']; rfl
    have m3 : ltM l (joL o v) v n = [] := by unfold ltM; rw [if_pos hc', late_none ho hv c]
    have m4 : ltE l (joL o v) v n = 0 := by unfold ltE; rw [if_pos hc']
    have hE : E_lla ⟨l, o, v, false, true, n, joL o v, ltM l o v n, (0 : Int), l, (List.length l : Int), (0 : Int)⟩ := ⟨rfl, rfl, rfl, h1, rfl, hl, ho, hv, he', c, rfl, m1⟩
    obtain ⟨s', _, q1, q2⟩ := lla_fin _ hE
    have q2 : (run_lla ⟨l, o, v, false, true, n, joL o v, ltM l o v n, (0 : Int), l, (List.length l : Int), (0 : Int)⟩).k = ((ltM l o v n).length : Int) := q2
    refine ⟨hE, fun h => ?_, fun _ => ⟨⟨h1, h4, h3⟩, congrArg (fun z => LV.v (.bool z)) ?_⟩⟩
    · rw [q1] at h; cases h
    rw [q2, m3, m4]
    simp
  · cases h)
end Go.Proofs.Ytcpadfehoaopaaa
