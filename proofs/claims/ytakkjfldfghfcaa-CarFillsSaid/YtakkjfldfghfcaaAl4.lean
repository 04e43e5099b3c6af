/- CarFills: what it computes. -/
import Derived.Test.YtakkjfldfghfcaaAq
namespace Go.Proofs.Ytakkjfldfghfcaa
open Go.Sx
theorem and7 (x y : Int) : 0 ≤ andK .i64 (andK .i64 x 7) y ∧ andK .i64 (andK .i64 x 7) y ≤ 7 := by
  have key : ∀ (a b : BitVec 64), a.toNat ≤ 7 → 0 ≤ IntKind.i64.wrap ((a &&& b).toNat : Int) ∧ IntKind.i64.wrap ((a &&& b).toNat : Int) ≤ 7 ∧ IntKind.i64.wrap ((a &&& b).toNat : Int) = ((a &&& b).toNat : Int) := fun a b h => by
    have : (a &&& b).toNat ≤ 7 := by rw [BitVec.toNat_and]; exact Nat.le_trans Nat.and_le_left h
    rw [wrapS (by omega) (by omega)]
    omega
  have h7 : (BitVec.ofInt 64 7 &&& BitVec.ofInt 64 x).toNat ≤ 7 := by rw [BitVec.toNat_and]; exact Nat.le_trans Nat.and_le_left (by decide)
  have e : andK .i64 x 7 = ((BitVec.ofInt 64 7 &&& BitVec.ofInt 64 x).toNat : Int) := by
    unfold andK
    show IntKind.i64.wrap ((BitVec.ofInt 64 x &&& BitVec.ofInt 64 7).toNat : Int) = _
    rw [BitVec.and_comm, wrapS (by omega) (by omega)]
  have h : (BitVec.ofInt 64 (andK .i64 x 7)).toNat ≤ 7 := by
    rw [e, BitVec.toNat_ofInt]
    omega
  have := key (BitVec.ofInt 64 (andK .i64 x 7)) (BitVec.ofInt 64 y) h
  unfold andK at this ⊢
  exact ⟨this.1, this.2.1⟩
theorem land7 {x : Int} (h : 0 ≤ x ∧ x ≤ 7) : andK .i64 x 7 = x := by
  rcases eight h.1 h.2 with rfl | rfl | rfl | rfl | rfl | rfl | rfl | rfl <;> decide
theorem cnt_pos {x : Int} (h : 0 ≤ x ∧ x ≤ 7) (h0 : x ≠ 0) : 1 ≤ cnt x := by
  rcases eight h.1 h.2 with rfl | rfl | rfl | rfl | rfl | rfl | rfl | rfl <;> first | (exact absurd rfl h0) | decide
theorem ceil_lt {i nd E : Int} (hE : 0 < E) (h : i < (nd + E - 1) / E) : i * E < nd := by
  have h1 := Int.ediv_mul_le (nd + E - 1) (show E ≠ 0 by omega)
  have h2 := Int.mul_le_mul_of_nonneg_right (show i + 1 ≤ (nd + E - 1) / E by omega) (show 0 ≤ E by omega)
  rw [Int.add_mul] at h2
  omega
theorem ceil_ge {nd E : Int} (hE : 0 < E) : nd ≤ (nd + E - 1) / E * E := by
  have h1 := Int.lt_ediv_add_one_mul_self (nd + E - 1) hE
  rw [Int.add_mul] at h1
  omega
structure L_fi where
  phases : Int
  more : Int
  r : Bool
  up_ : Bool
  n : Int
  i : Int
  c_Kind : Int
  c_Phases : Int
  c_Max : Int
  c_Need : Int
  c_Delay : Int
  s_Pilots : List Int
  s_Ticks : Int
  s_Got : Int
def A_fi (s : L_fi) : List LV := [.v (.int .i64 s.phases), .v (.int .i64 s.more), .own 0 0, .v (.bool s.r), .v (.bool s.up_), .own 1 0, .v (.int .i64 s.n), .v (.int .i64 s.i)]
def B_fi (s : L_fi) : List Blk := [⟨[.v (.int .i64 s.c_Kind), .v (.int .i64 s.c_Phases), .v (.int .i64 s.c_Max), .v (.int .i64 s.c_Need), .v (.int .i64 s.c_Delay)], 23, .cl, false⟩, ⟨[.xl (.int .i64) s.s_Pilots, .v (.int .i64 s.s_Ticks), .v (.int .i64 s.s_Got)], 26, .cl, false⟩]
noncomputable def body_fi : Code := ((loopsIn (Try.f6.body.getD .skip))[0]?).getD .skip
def fa_fi (s : L_fi) (vB : Bool) (vA : Int) (vP : List Int) (vG : Int) : Rd L_fi :=
  if (decide (s.i < s.n)) then
    if (decide (s.s_Got ≥ s.c_Need)) then
      .stop (.ret) { s with r := false }
    else
      if vB then
        if (((0 : Int) != 0) || (vA != s.c_Max)) then
          .stop (.ret) { s with r := false }
        else
          .next { s with i := (IntKind.i64.wrap (s.i + 1)), s_Pilots := vP, s_Ticks := (s.s_Ticks + 1), s_Got := vG }
      else
        if (((1 : Int) != 0) || ((0 : Int) != s.c_Max)) then
          .stop (.ret) { s with r := false }
        else
          .next { s with i := (IntKind.i64.wrap (s.i + 1)), s_Pilots := ([] : List Int), s_Ticks := (0 : Int), s_Got := (0 : Int) }
  else
    .stop (.exit 0) s
def f_fi (s : L_fi) : Rd L_fi := fa_fi s (drB s.c_Kind s.c_Phases s.c_Max s.c_Need s.c_Delay s.s_Pilots s.s_Ticks s.s_Got s.phases (IntKind.i64.wrap (s.c_Max + s.more))) (dA s.c_Kind s.c_Phases s.c_Max s.c_Need s.c_Delay s.s_Pilots s.s_Ticks s.s_Got s.phases (IntKind.i64.wrap (s.c_Max + s.more))) (dP s.s_Pilots (IntKind.i64.wrap (s.c_Max + s.more))) (dG s.c_Kind s.c_Phases s.c_Max s.c_Need s.c_Delay s.s_Pilots s.s_Ticks s.s_Got s.phases (IntKind.i64.wrap (s.c_Max + s.more)))
def P_fi (s : L_fi) := ((), s.phases, s.more, s.up_, s.n, s.c_Kind, s.c_Phases, s.c_Max, s.c_Need, s.c_Delay)
theorem fi_exa (s : L_fi) (vB : Bool) (vA : Int) (vP : List Int) (vG : Int) : allR (fun _ => True) (fun x _ => x = .ret ∨ x = .exit 0) (fa_fi s vB vA vP vG) := by
  unfold fa_fi
  exact allR_ite (fun c1 => allR_ite (fun c2 => (.inl rfl)) (fun c2 => allR_ite (fun c3 => allR_ite (fun c4 => (.inl rfl)) (fun c4 => trivial)) (fun c3 => allR_ite (fun c5 => (.inl rfl)) (fun c5 => trivial)))) (fun c1 => (.inr rfl))
theorem fi_ex : ∀ s x s', f_fi s = .stop x s' → x = .ret ∨ x = .exit 0 := fun s x s' h => allR_stop (fi_exa s _ _ _ _) h
theorem fi_ka (s : L_fi) (vB : Bool) (vA : Int) (vP : List Int) (vG : Int) : allR (fun s' => P_fi s' = P_fi s) (fun _ s' => P_fi s' = P_fi s) (fa_fi s vB vA vP vG) := by
  unfold fa_fi
  exact allR_ite (fun c1 => allR_ite (fun c2 => rfl) (fun c2 => allR_ite (fun c3 => allR_ite (fun c4 => rfl) (fun c4 => rfl)) (fun c3 => allR_ite (fun c5 => rfl) (fun c5 => rfl)))) (fun c1 => rfl)
def D_fi (s : L_fi) : Int := 2300 * s.c_Max * cnt (cmn 0 s.c_Phases s.phases)
def E_fi (s : L_fi) : Prop := s.i = 0 ∧ s.s_Pilots = [] ∧ s.s_Ticks = 0 ∧ s.s_Got = 0 ∧ 0 ≤ s.n ∧ s.c_Kind = 0 ∧ carB s.c_Kind s.c_Phases s.c_Max s.c_Need s.c_Delay = true ∧ (1 ≤ s.phases ∧ s.phases ≤ 7) ∧ cmn 0 s.c_Phases s.phases ≠ 0 ∧ (0 ≤ s.more ∧ s.more ≤ 80 - s.c_Max) ∧ s.up_ = true ∧ (s.n = (s.c_Need + D_fi s - 1) / D_fi s ∧ s.n ≤ 200)
def I_fi (s : L_fi) : Prop := (0 ≤ s.i ∧ s.i ≤ s.n) ∧ (s.s_Got = s.i * D_fi s ∧ s.s_Ticks = s.i ∧ mindB s.s_Pilots s.s_Ticks s.s_Got = true) ∧ s.c_Kind = 0 ∧ carB s.c_Kind s.c_Phases s.c_Max s.c_Need s.c_Delay = true ∧ (1 ≤ s.phases ∧ s.phases ≤ 7) ∧ cmn 0 s.c_Phases s.phases ≠ 0 ∧ (0 ≤ s.more ∧ s.more ≤ 80 - s.c_Max) ∧ s.up_ = true ∧ (s.n = (s.c_Need + D_fi s - 1) / D_fi s ∧ s.n ≤ 200)
def mu_fi (s : L_fi) : Nat := (s.n - s.i).toNat
def Q_fi (x : Ex) (s s' : L_fi) : Prop := x = .exit 0 ∧ s'.c_Need ≤ s'.s_Got ∧ s'.up_ = true
theorem fi_E : ∀ s, E_fi s → I_fi s := by
  intro s h
  obtain ⟨h0, h1, h2, h3, hn, h4⟩ := h
  exact ⟨⟨by omega, by omega⟩, ⟨by rw [h0, h3]; simp, by omega, by rw [h1, h2, h3]; exact mind_zero⟩, h4⟩
theorem fi_da0 (s : L_fi) (hI : I_fi s) (vB : Bool) (vA : Int) (vP : List Int) (vG : Int) (hvB : drB s.c_Kind s.c_Phases s.c_Max s.c_Need s.c_Delay s.s_Pilots s.s_Ticks s.s_Got s.phases (IntKind.i64.wrap (s.c_Max + s.more)) = vB) (hvA : dA s.c_Kind s.c_Phases s.c_Max s.c_Need s.c_Delay s.s_Pilots s.s_Ticks s.s_Got s.phases (IntKind.i64.wrap (s.c_Max + s.more)) = vA) (hvP : dP s.s_Pilots (IntKind.i64.wrap (s.c_Max + s.more)) = vP) (hvG : dG s.c_Kind s.c_Phases s.c_Max s.c_Need s.c_Delay s.s_Pilots s.s_Ticks s.s_Got s.phases (IntKind.i64.wrap (s.c_Max + s.more)) = vG) : allR (fun s' => I_fi s' ∧ mu_fi s' < mu_fi s) (fun x s' => Q_fi x s s') (fa_fi s vB vA vP vG) := by
  unfold fa_fi
  obtain ⟨⟨hi0, hi1⟩, ⟨hg, ht, hm⟩, hk, hc, hp, hc0, hmo, hu, hn, hn2⟩ := hI
  have hc' := carB_iff.1 hc
  have hcs := cmn_small (k := 0) (ph := s.c_Phases) (p2 := s.phases) ⟨by omega, by omega⟩ hp
  have hcp := cnt_pos ⟨hcs.1, hcs.2.1⟩ hc0
  have hc3 := cnt_small (n := cmn 0 s.c_Phases s.phases)
  have hD : 0 < D_fi s := by
    unfold D_fi
    exact Int.mul_pos (by omega) (by omega)
  have hw : IntKind.i64.wrap (s.c_Max + s.more) = s.c_Max + s.more := wrapS (by omega) (by omega)
  refine allR_ite (fun c1 => ?_) (fun c1 => ?_)
  rotate_left
  · have c1 : s.n ≤ s.i := by simpa using c1
    have : s.i = s.n := by omega
    exact ⟨rfl, by rw [hg, this, hn]; exact ceil_ge hD, hu⟩
  have c1 : s.i < s.n := by simpa using c1
  have hlt : s.s_Got < s.c_Need := by rw [hg]; exact ceil_lt hD (by omega)
  have hB : drB s.c_Kind s.c_Phases s.c_Max s.c_Need s.c_Delay s.s_Pilots s.s_Ticks s.s_Got s.phases (IntKind.i64.wrap (s.c_Max + s.more)) = true := drB_iff.2 ⟨hc, hm, hp.1, hp.2, by omega, by omega, by omega⟩
  have hA : dA s.c_Kind s.c_Phases s.c_Max s.c_Need s.c_Delay s.s_Pilots s.s_Ticks s.s_Got s.phases (IntKind.i64.wrap (s.c_Max + s.more)) = s.c_Max := by
    unfold dA
    rw [hk, if_neg (by omega), hw]
    simp only [wish]
    simp
    omega
  have hO : dO s.c_Kind s.c_Phases s.c_Max s.c_Need s.c_Delay s.s_Pilots s.s_Ticks s.s_Got s.phases (IntKind.i64.wrap (s.c_Max + s.more)) = cmn 0 s.c_Phases s.phases := by
    unfold dO
    rw [hA, if_neg (by omega), hk]
  have hG : dG s.c_Kind s.c_Phases s.c_Max s.c_Need s.c_Delay s.s_Pilots s.s_Ticks s.s_Got s.phases (IntKind.i64.wrap (s.c_Max + s.more)) = (s.i + 1) * D_fi s := by
    unfold dG
    rw [hA, hO, hg, Int.add_mul, Int.one_mul]
    rfl
  obtain ⟨n1, n2, n3, n4, n5, n6⟩ := mind_next hB (by omega)
  refine allR_ite (fun c2 => ?_) (fun c2 => ?_)
  · simp at c2; omega
  refine allR_ite (fun c3 => ?_) (fun c3 => ?_)
  rotate_left
  · rw [← hvB, hB] at c3; cases c3
  refine allR_ite (fun c4 => ?_) (fun c4 => ?_)
  · rw [← hvA, hA] at c4; simp at c4
  rw [wrapS (x := s.i + 1) (by omega) (by omega), ← hvP, ← hvG]
  refine ⟨⟨⟨by simp only; omega, by simp only; omega⟩, ⟨hG, by simp only; omega, n1⟩, hk, hc, hp, hc0, hmo, hu, hn, hn2⟩, by simp only [mu_fi]; omega⟩
theorem fi_da (s : L_fi) (hI : I_fi s) : allR (fun s' => I_fi s' ∧ mu_fi s' < mu_fi s) (fun x s' => Q_fi x s s') (f_fi s) := fi_da0 s hI _ _ _ _ rfl rfl rfl rfl
theorem fi_d : ∀ s s', I_fi s → f_fi s = .next s' → I_fi s' ∧ mu_fi s' < mu_fi s := fun s s' hI h => allR_next (fi_da s hI) h
def sel_fi : List LV → List Blk → T L_fi
  | [.v (.int .i64 phases), .v (.int .i64 more), .own 0 0, .v (.bool r), .v (.bool up_), .own 1 0, .v (.int .i64 n), .v (.int .i64 i)], [⟨[.v (.int .i64 c_Kind), .v (.int .i64 c_Phases), .v (.int .i64 c_Max), .v (.int .i64 c_Need), .v (.int .i64 c_Delay)], 23, .cl, false⟩, ⟨[.xl (.int .i64) s_Pilots, .v (.int .i64 s_Ticks), .v (.int .i64 s_Got)], 26, .cl, false⟩] => .req (E_fi ⟨phases, more, r, up_, n, i, c_Kind, c_Phases, c_Max, c_Need, c_Delay, s_Pilots, s_Ticks, s_Got⟩) (.ok ⟨phases, more, r, up_, n, i, c_Kind, c_Phases, c_Max, c_Need, c_Delay, s_Pilots, s_Ticks, s_Got⟩)
  | _, _ => .no
theorem sel_fi_ok : ∀ vals blks s, (sel_fi vals blks).all (fun x => x = s) → E_fi s ∧ vals = A_fi s ∧ blks = B_fi s := by
  intro vals blks s h
  unfold sel_fi at h
  split at h
  · obtain ⟨h1, rfl⟩ := h
    exact ⟨h1, rfl, rfl⟩
  · cases h
def run_fi (s : L_fi) : L_fi := { (runW f_fi (mu_fi s + 1) s).2 with phases := s.phases, more := s.more, up_ := s.up_, n := s.n, c_Kind := s.c_Kind, c_Phases := s.c_Phases, c_Max := s.c_Max, c_Need := s.c_Need, c_Delay := s.c_Delay }
theorem run_fi_eq (s : L_fi) : (runW f_fi (mu_fi s + 1) s).2 = run_fi s := by
  have hk := runW_keep (f := f_fi) P_fi (fun s s' hf => allR_next (fi_ka s _ _ _ _) hf) (fun s x s' hf => allR_stop (fi_ka s _ _ _ _) hf) (mu_fi s + 1) s
  unfold run_fi
  generalize (runW f_fi (mu_fi s + 1) s).2 = r at *
  cases r
  simp only [P_fi, Prod.mk.injEq, true_and] at hk
  simp only [L_fi.mk.injEq, hk, and_self]
def exn_fi (s : L_fi) : Ex := (runW f_fi (mu_fi s + 1) s).1
def out_fi (s : L_fi) : T (Ex × List LV × List Blk) := .br (isEx (exn_fi s) (.ret)) (.ok (.ret, frameOf 110 [1, 2, 3, 6, 7, 8, 71, 72] (A_fi (run_fi s)), B_fi (run_fi s))) (.ok (.exit 0, frameOf 110 [1, 2, 3, 6, 7, 8, 71, 72] (A_fi (run_fi s)), B_fi (run_fi s)))
theorem nfl_fi (s : L_fi) : backT [1, 2, 3, 6, 7, 8, 71, 72] [] (codex Try.prog noGlobs (specsOf [(10, S_head), (11, S_drw), (13, S_plug), (16, S_count)]) noK noLoops body_fi (frameOf 110 [1, 2, 3, 6, 7, 8, 71, 72] (A_fi s)) (B_fi s)) = .br (decide (s.i < s.n)) (.br (decide (s.s_Got ≥ s.c_Need)) (.ok (⟨.ret, 110, [.v (.int .i64 s.phases), .v (.int .i64 s.more), .own 0 0, .v (.bool false), .v (.bool s.up_), .own 1 0, .v (.int .i64 s.n), .v (.int .i64 s.i)], [⟨[.v (.int .i64 s.c_Kind), .v (.int .i64 s.c_Phases), .v (.int .i64 s.c_Max), .v (.int .i64 s.c_Need), .v (.int .i64 s.c_Delay)], 23, .cl, false⟩, ⟨[.xl (.int .i64) s.s_Pilots, .v (.int .i64 s.s_Ticks), .v (.int .i64 s.s_Got)], 26, .cl, false⟩], true⟩)) (.br (drB s.c_Kind s.c_Phases s.c_Max s.c_Need s.c_Delay s.s_Pilots s.s_Ticks s.s_Got s.phases (IntKind.i64.wrap (s.c_Max + s.more))) (.br (((0 : Int) != 0) || ((dA s.c_Kind s.c_Phases s.c_Max s.c_Need s.c_Delay s.s_Pilots s.s_Ticks s.s_Got s.phases (IntKind.i64.wrap (s.c_Max + s.more))) != s.c_Max)) (.ok (⟨.ret, 110, [.v (.int .i64 s.phases), .v (.int .i64 s.more), .own 0 0, .v (.bool false), .v (.bool s.up_), .own 1 0, .v (.int .i64 s.n), .v (.int .i64 s.i)], [⟨[.v (.int .i64 s.c_Kind), .v (.int .i64 s.c_Phases), .v (.int .i64 s.c_Max), .v (.int .i64 s.c_Need), .v (.int .i64 s.c_Delay)], 23, .cl, false⟩, ⟨[.xl (.int .i64) s.s_Pilots, .v (.int .i64 s.s_Ticks), .v (.int .i64 s.s_Got)], 26, .cl, false⟩], true⟩)) (.ok (⟨.normal, 110, [.v (.int .i64 s.phases), .v (.int .i64 s.more), .own 0 0, .v (.bool s.r), .v (.bool s.up_), .own 1 0, .v (.int .i64 s.n), .v (.int .i64 (IntKind.i64.wrap (s.i + 1)))], [⟨[.v (.int .i64 s.c_Kind), .v (.int .i64 s.c_Phases), .v (.int .i64 s.c_Max), .v (.int .i64 s.c_Need), .v (.int .i64 s.c_Delay)], 23, .cl, false⟩, ⟨[.xl (.int .i64) (dP s.s_Pilots (IntKind.i64.wrap (s.c_Max + s.more))), .v (.int .i64 (s.s_Ticks + 1)), .v (.int .i64 (dG s.c_Kind s.c_Phases s.c_Max s.c_Need s.c_Delay s.s_Pilots s.s_Ticks s.s_Got s.phases (IntKind.i64.wrap (s.c_Max + s.more))))], 26, .cl, false⟩], true⟩))) (.br (((1 : Int) != 0) || ((0 : Int) != s.c_Max)) (.ok (⟨.ret, 110, [.v (.int .i64 s.phases), .v (.int .i64 s.more), .own 0 0, .v (.bool false), .v (.bool s.up_), .own 1 0, .v (.int .i64 s.n), .v (.int .i64 s.i)], [⟨[.v (.int .i64 s.c_Kind), .v (.int .i64 s.c_Phases), .v (.int .i64 s.c_Max), .v (.int .i64 s.c_Need), .v (.int .i64 s.c_Delay)], 23, .cl, false⟩, ⟨[.xl (.int .i64) s.s_Pilots, .v (.int .i64 s.s_Ticks), .v (.int .i64 s.s_Got)], 26, .cl, false⟩], true⟩)) (.ok (⟨.normal, 110, [.v (.int .i64 s.phases), .v (.int .i64 s.more), .own 0 0, .v (.bool s.r), .v (.bool s.up_), .own 1 0, .v (.int .i64 s.n), .v (.int .i64 (IntKind.i64.wrap (s.i + 1)))], [⟨[.v (.int .i64 s.c_Kind), .v (.int .i64 s.c_Phases), .v (.int .i64 s.c_Max), .v (.int .i64 s.c_Need), .v (.int .i64 s.c_Delay)], 23, .cl, false⟩, ⟨[.xl (.int .i64) ([] : List Int), .v (.int .i64 0), .v (.int .i64 0)], 26, .cl, false⟩], true⟩))))) (.ok (⟨.exit 0, 110, [.v (.int .i64 s.phases), .v (.int .i64 s.more), .own 0 0, .v (.bool s.r), .v (.bool s.up_), .own 1 0, .v (.int .i64 s.n), .v (.int .i64 s.i)], [⟨[.v (.int .i64 s.c_Kind), .v (.int .i64 s.c_Phases), .v (.int .i64 s.c_Max), .v (.int .i64 s.c_Need), .v (.int .i64 s.c_Delay)], 23, .cl, false⟩, ⟨[.xl (.int .i64) s.s_Pilots, .v (.int .i64 s.s_Ticks), .v (.int .i64 s.s_Got)], 26, .cl, false⟩], true⟩)) := by kernel_rfl
theorem stp_fi (s : L_fi) (hI : I_fi s) : AllT (fun v => v = rdV 110 A_fi B_fi (f_fi s)) (backT [1, 2, 3, 6, 7, 8, 71, 72] [] (codex Try.prog noGlobs (specsOf [(10, S_head), (11, S_drw), (13, S_plug), (16, S_count)]) noK noLoops body_fi (frameOf 110 [1, 2, 3, 6, 7, 8, 71, 72] (A_fi s)) (B_fi s))) := by
  constructor
  rw [nfl_fi]
  unfold f_fi fa_fi
  exact
    stp_br (fun c1 =>
      stp_br (fun c2 =>
        rfl) (fun c2 =>
        stp_br (fun c3 =>
          stp_br (fun c4 =>
            rfl) (fun c4 =>
            rfl)) (fun c3 =>
          stp_br (fun c5 =>
            rfl) (fun c5 =>
            rfl)))) (fun c1 =>
      rfl)
theorem fi_end (s : L_fi) (hE : E_fi s) : ∃ s', I_fi s' ∧ f_fi s' = .stop (exn_fi s) (run_fi s) := by rw [← run_fi_eq]; exact runW_stop fi_d (mu_fi s + 1) s (fi_E s hE) (Nat.lt_succ_self _)
theorem snd_fi : Sound Try.prog noGlobs (.loop body_fi) (loopT 110 [1, 2, 3, 6, 7, 8, 71, 72] [] sel_fi out_fi) :=
  loop_view 110 [1, 2, 3, 6, 7, 8, 71, 72] [] A_fi B_fi I_fi E_fi mu_fi f_fi sel_fi out_fi (code_sound (Γ := specsOf [(10, S_head), (11, S_drw), (13, S_plug), (16, S_count)]) (K := noK) (L := noLoops) (specs_ok (l := [(10, S_head), (11, S_drw), (13, S_plug), (16, S_count)]) ⟨v_head, v_drw, v_plug, v_count, trivial⟩) noK_sound body_fi (fun b hb => by rw [show loopsIn body_fi = [] by kernel_rfl] at hb; cases hb))
    sel_fi_ok fi_E fi_d (fun s x s' hf => by have := fi_ex s x s' hf; intro h0; subst h0; simp at this) stp_fi (fun s hE => by
      obtain ⟨s', _, h2⟩ := fi_end s hE
      have h3 := fi_ex _ _ _ h2
      have h4 : (runW f_fi (mu_fi s + 1) s).1 = exn_fi s := rfl
      rw [h4, run_fi_eq]
      unfold out_fi
      generalize exn_fi s = e at h3
      rcases h3 with h3 | h3 <;> subst h3 <;> simp [T.all, isEx])
theorem fi_fin (s : L_fi) (hE : E_fi s) : ∃ s', I_fi s' ∧ Q_fi (exn_fi s) s' (run_fi s) := by
  obtain ⟨s', hI, hf⟩ := fi_end s hE
  exact ⟨s', hI, allR_stop (fi_da s' hI) hf⟩
def S0_l4 : List LV → T LV
  | [.v (.agg ⟨[.int .i64 k, .int .i64 ph, .int .i64 mx, .int .i64 nd, .int .i64 dl]⟩), .v (.int .i64 p2), .v (.int .i64 mo)] => .ok (.v (.bool true))
  | _ => .no
noncomputable def S_l4 : List LV → T LV := upS Try.prog Try.f6.params.toList S0_l4
theorem nf_l4 (k ph mx nd dl p2 mo : Int) : funu Try.prog noGlobs (specsOf [(10, S_head), (11, S_drw), (13, S_plug), (16, S_count)]) noK (fun i => if i = 12 then loopT 110 [1, 2, 3, 6, 7, 8, 71, 72] [] sel_fi out_fi else noLoops i) Try.f6 [.v (.agg #[.int .i64 k, .int .i64 ph, .int .i64 mx, .int .i64 nd, .int .i64 dl]), .v (.int .i64 p2), .v (.int .i64 mo)] = .req (0 ≤ (andK .i64 (andK .i64 ph 7) p2) ∧ (andK .i64 (andK .i64 ph 7) p2) ≤ 7) (.br (((plE (0 : Int) ph mx nd dl) != 0) || ((decide (p2 < 1)) || ((decide (p2 > 7)) || (((cnt (andK .i64 (andK .i64 ph 7) p2)) == 0) || ((decide (mo < 0)) || (decide (mo > (IntKind.i64.wrap (80 - mx))))))))) (.ok (.v (.bool true))) (.req ((IntKind.i64.wrap ((IntKind.i64.wrap (2300 * mx)) * (cnt (andK .i64 (andK .i64 ph 7) p2)))) ≠ 0) (.br (decide ((IntKind.i64.wrap ((IntKind.i64.wrap ((IntKind.i64.wrap (nd + (IntKind.i64.wrap ((IntKind.i64.wrap (2300 * mx)) * (cnt (andK .i64 (andK .i64 ph 7) p2)))))) - 1)).tdiv (IntKind.i64.wrap ((IntKind.i64.wrap (2300 * mx)) * (cnt (andK .i64 (andK .i64 ph 7) p2)))))) > 200)) (.ok (.v (.bool true))) (.req (E_fi (⟨p2, mo, false, true, (IntKind.i64.wrap ((IntKind.i64.wrap ((IntKind.i64.wrap (nd + (IntKind.i64.wrap ((IntKind.i64.wrap (2300 * mx)) * (cnt (andK .i64 (andK .i64 ph 7) p2)))))) - 1)).tdiv (IntKind.i64.wrap ((IntKind.i64.wrap (2300 * mx)) * (cnt (andK .i64 (andK .i64 ph 7) p2)))))), (0 : Int), (0 : Int), ph, mx, nd, dl, ([] : List Int), (0 : Int), (0 : Int)⟩ : L_fi)) (.br (isEx (exn_fi (⟨p2, mo, false, true, (IntKind.i64.wrap ((IntKind.i64.wrap ((IntKind.i64.wrap (nd + (IntKind.i64.wrap ((IntKind.i64.wrap (2300 * mx)) * (cnt (andK .i64 (andK .i64 ph 7) p2)))))) - 1)).tdiv (IntKind.i64.wrap ((IntKind.i64.wrap (2300 * mx)) * (cnt (andK .i64 (andK .i64 ph 7) p2)))))), (0 : Int), (0 : Int), ph, mx, nd, dl, ([] : List Int), (0 : Int), (0 : Int)⟩ : L_fi)) (.ret)) (.ok (.v (.bool (((run_fi (⟨p2, mo, false, true, (IntKind.i64.wrap ((IntKind.i64.wrap ((IntKind.i64.wrap (nd + (IntKind.i64.wrap ((IntKind.i64.wrap (2300 * mx)) * (cnt (andK .i64 (andK .i64 ph 7) p2)))))) - 1)).tdiv (IntKind.i64.wrap ((IntKind.i64.wrap (2300 * mx)) * (cnt (andK .i64 (andK .i64 ph 7) p2)))))), (0 : Int), (0 : Int), ph, mx, nd, dl, ([] : List Int), (0 : Int), (0 : Int)⟩ : L_fi)).r))))) (.ok (.v (.bool (true && (decide ((((run_fi (⟨p2, mo, false, true, (IntKind.i64.wrap ((IntKind.i64.wrap ((IntKind.i64.wrap (nd + (IntKind.i64.wrap ((IntKind.i64.wrap (2300 * mx)) * (cnt (andK .i64 (andK .i64 ph 7) p2)))))) - 1)).tdiv (IntKind.i64.wrap ((IntKind.i64.wrap (2300 * mx)) * (cnt (andK .i64 (andK .i64 ph 7) p2)))))), (0 : Int), (0 : Int), ph, mx, nd, dl, ([] : List Int), (0 : Int), (0 : Int)⟩ : L_fi)).s_Got)) ≥ nd))))))))))) := by kernel_rfl
theorem v_l4 : Valid Try.prog noGlobs 6 S_l4 := valid_ofu Try.func6 rfl (specs_ok (l := [(10, S_head), (11, S_drw), (13, S_plug), (16, S_count)]) ⟨v_head, v_drw, v_plug, v_count, trivial⟩) noK_sound (L := (fun i => if i = 12 then loopT 110 [1, 2, 3, 6, 7, 8, 71, 72] [] sel_fi out_fi else noLoops i)) (fun b hb => by
  rw [show loopsIn _ = [body_fi] by kernel_rfl] at hb
  simp only [List.mem_cons, List.not_mem_nil, or_false] at hb
  subst hb
  exact snd_fi) (fun args lv h => by
  unfold S0_l4 at h
  split at h
  · simp only [canL, canX]
    rw [nf_l4]
    rename_i k ph mx nd dl p2 mo
    obtain rfl := h
    refine ⟨and7 ph p2, fun _ => rfl, fun hk => ?_⟩
    simp only [Bool.or_eq_false_iff, decide_eq_false_iff_not, bne_eq_false_iff_eq, beq_eq_false_iff_ne] at hk
    obtain ⟨k1, k2, k3, k4, k5, k6⟩ := hk
    have hc : carB 0 ph mx nd dl = true := by
      have := k1
      unfold plE at this
      split at this
      · assumption
      · cases this
    have hc' := carB_iff.1 hc
    rw [wrapS (x := 80 - mx) (by omega) (by omega)] at k6
    have e7 : andK .i64 (andK .i64 ph 7) p2 = cmn 0 ph p2 := by rw [land7 ⟨by omega, by omega⟩]; rfl
    rw [e7] at k4 ⊢
    have hcs := cmn_small (k := 0) (ph := ph) (p2 := p2) ⟨by omega, by omega⟩ ⟨by omega, by omega⟩
    have hc3 := cnt_small (n := cmn 0 ph p2)
    have h0 : cmn 0 ph p2 ≠ 0 := fun h => k4 (by rw [h]; decide)
    have hcp := cnt_pos ⟨hcs.1, hcs.2.1⟩ h0
    have hD : 2300 ≤ 2300 * mx * cnt (cmn 0 ph p2) ∧ 2300 * mx * cnt (cmn 0 ph p2) ≤ 552000 := by
      have : cnt (cmn 0 ph p2) = 1 ∨ cnt (cmn 0 ph p2) = 2 ∨ cnt (cmn 0 ph p2) = 3 := by omega
      rcases this with e | e | e <;> rw [e] <;> omega
    have eD : IntKind.i64.wrap (IntKind.i64.wrap (2300 * mx) * cnt (cmn 0 ph p2)) = 2300 * mx * cnt (cmn 0 ph p2) := by rw [wrapS (x := 2300 * mx) (by omega) (by omega), wrapS (by omega) (by omega)]
    rw [eD]
    have eE : ∀ D : Int, 2300 ≤ D → D ≤ 552000 → IntKind.i64.wrap ((IntKind.i64.wrap (IntKind.i64.wrap (nd + D) - 1)).tdiv D) = (nd + D - 1) / D ∧ 0 ≤ (nd + D - 1) / D := fun D h1 h2 => by
      rw [wrapS (x := nd + D) (by omega) (by omega), wrapS (x := nd + D - 1) (by omega) (by omega), Int.tdiv_eq_ediv_of_nonneg (by omega)]
      have g1 : 0 ≤ (nd + D - 1) / D := Int.ediv_nonneg (by omega) (by omega)
      have g2 : (nd + D - 1) / D ≤ nd + D - 1 := Int.ediv_le_self _ (by omega)
      exact ⟨wrapS (by omega) (by omega), g1⟩
    obtain ⟨e1, e2⟩ := eE _ hD.1 hD.2
    rw [e1]
    refine ⟨by omega, fun _ => rfl, fun h200 => ?_⟩
    have h200 : ¬ (nd + 2300 * mx * cnt (cmn 0 ph p2) - 1) / (2300 * mx * cnt (cmn 0 ph p2)) > 200 := by simpa using h200
    have hE : E_fi ⟨p2, mo, false, true, (nd + 2300 * mx * cnt (cmn 0 ph p2) - 1) / (2300 * mx * cnt (cmn 0 ph p2)), (0 : Int), (0 : Int), ph, mx, nd, dl, [], (0 : Int), (0 : Int)⟩ := ⟨rfl, rfl, rfl, rfl, e2, rfl, hc, ⟨by simp only; omega, by simp only; omega⟩, h0, ⟨by simp only; omega, by simp only; omega⟩, rfl, rfl, by simp only; omega⟩
    obtain ⟨s', _, h1, h2, h3⟩ := fi_fin _ hE
    refine ⟨hE, ?_⟩
    rw [h1]
    refine ⟨fun h => (by cases h), fun _ => congrArg (fun z => LV.v (.bool z)) ?_⟩
    rw [Bool.true_and, decide_eq_true_eq]
    exact h2
  · cases h)
end Go.Proofs.Ytakkjfldfghfcaa
