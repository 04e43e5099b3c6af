/- StepsLevels: what it computes. -/
import Derived.Test.YtihbikkkmoaljaaEi
import Derived.Test.YtihbikkkmoaljaaEv
namespace Go.Proofs.Ytihbikkkmoaljaa
open Go.Sx
structure L_sl where
 amps : Int
 t4 : Bool
 up_ : Bool
 last : Int
 n : Int
 m : Int
 k : Int
 nm : ByteArray
 at_ : Int
 ph : Int
 mi : Int
 ma : Int
 st : Int
 fb : Int
 ow : Int
def A_sl (s : L_sl) : List LV := [.v (.int .u8 s.amps), .own 0 0, .v (.bool s.t4), .v (.bool s.up_), .v (.int .i64 s.last), .v (.int .i64 s.n), .v (.int .i64 s.m), .v (.int .i64 s.k)]
def B_sl (s : L_sl) : List Blk := [⟨[.v (.string s.nm), .v (.int .i64 s.at_), .v (.int .i64 s.ph), .v (.int .i64 s.mi), .v (.int .i64 s.ma), .v (.int .i64 s.st), .v (.int .i64 s.fb), .v (.int .i64 s.ow)], 23, .cl, false⟩]
noncomputable def body_sl : Code := ((loopsIn (Try.f4.body.getD .skip))[0]?).getD .skip
def t_sl (s : L_sl) : T (Rd L_sl) :=
 .br (decide (s.k < s.m)) (.br ((amE s.mi s.ma s.st s.k) != 0) (.ok (.stop (.ret) { s with t4 := false })) (.br (decide ((amA s.mi s.ma s.st s.k) ≤ s.last)) (.ok (.stop (.ret) { s with t4 := false })) (.br (decide ((amA s.mi s.ma s.st s.k) > s.ma)) (.ok (.stop (.ret) { s with t4 := false })) (.br (s.k == 0) (.br ((amA s.mi s.ma s.st s.k) != 0) (.ok (.stop (.ret) { s with t4 := false })) (.br (s.k == 1) (.br ((amA s.mi s.ma s.st s.k) != s.mi) (.ok (.stop (.ret) { s with t4 := false })) (.br (decide (s.k > 1)) (.br ((amA s.mi s.ma s.st s.k) != (IntKind.i64.wrap (s.last + s.st))) (.ok (.stop (.ret) { s with t4 := false })) (.req ((amA s.mi s.ma s.st s.k) ≤ 9223372036854775807) (.br ((lev s.mi s.ma s.st (amA s.mi s.ma s.st s.k)) != s.k) (.ok (.stop (.ret) { s with t4 := false })) (.ok (.next { s with last := (amA s.mi s.ma s.st s.k), k := (IntKind.i64.wrap (s.k + 1)) }))))) (.req ((amA s.mi s.ma s.st s.k) ≤ 9223372036854775807) (.br ((lev s.mi s.ma s.st (amA s.mi s.ma s.st s.k)) != s.k) (.ok (.stop (.ret) { s with t4 := false })) (.ok (.next { s with last := (amA s.mi s.ma s.st s.k), k := (IntKind.i64.wrap (s.k + 1)) })))))) (.br (decide (s.k > 1)) (.br ((amA s.mi s.ma s.st s.k) != (IntKind.i64.wrap (s.last + s.st))) (.ok (.stop (.ret) { s with t4 := false })) (.req ((amA s.mi s.ma s.st s.k) ≤ 9223372036854775807) (.br ((lev s.mi s.ma s.st (amA s.mi s.ma s.st s.k)) != s.k) (.ok (.stop (.ret) { s with t4 := false })) (.ok (.next { s with last := (amA s.mi s.ma s.st s.k), k := (IntKind.i64.wrap (s.k + 1)) }))))) (.req ((amA s.mi s.ma s.st s.k) ≤ 9223372036854775807) (.br ((lev s.mi s.ma s.st (amA s.mi s.ma s.st s.k)) != s.k) (.ok (.stop (.ret) { s with t4 := false })) (.ok (.next { s with last := (amA s.mi s.ma s.st s.k), k := (IntKind.i64.wrap (s.k + 1)) }))))))) (.br (s.k == 1) (.br ((amA s.mi s.ma s.st s.k) != s.mi) (.ok (.stop (.ret) { s with t4 := false })) (.br (decide (s.k > 1)) (.br ((amA s.mi s.ma s.st s.k) != (IntKind.i64.wrap (s.last + s.st))) (.ok (.stop (.ret) { s with t4 := false })) (.req ((amA s.mi s.ma s.st s.k) ≤ 9223372036854775807) (.br ((lev s.mi s.ma s.st (amA s.mi s.ma s.st s.k)) != s.k) (.ok (.stop (.ret) { s with t4 := false })) (.ok (.next { s with last := (amA s.mi s.ma s.st s.k), k := (IntKind.i64.wrap (s.k + 1)) }))))) (.req ((amA s.mi s.ma s.st s.k) ≤ 9223372036854775807) (.br ((lev s.mi s.ma s.st (amA s.mi s.ma s.st s.k)) != s.k) (.ok (.stop (.ret) { s with t4 := false })) (.ok (.next { s with last := (amA s.mi s.ma s.st s.k), k := (IntKind.i64.wrap (s.k + 1)) })))))) (.br (decide (s.k > 1)) (.br ((amA s.mi s.ma s.st s.k) != (IntKind.i64.wrap (s.last + s.st))) (.ok (.stop (.ret) { s with t4 := false })) (.req ((amA s.mi s.ma s.st s.k) ≤ 9223372036854775807) (.br ((lev s.mi s.ma s.st (amA s.mi s.ma s.st s.k)) != s.k) (.ok (.stop (.ret) { s with t4 := false })) (.ok (.next { s with last := (amA s.mi s.ma s.st s.k), k := (IntKind.i64.wrap (s.k + 1)) }))))) (.req ((amA s.mi s.ma s.st s.k) ≤ 9223372036854775807) (.br ((lev s.mi s.ma s.st (amA s.mi s.ma s.st s.k)) != s.k) (.ok (.stop (.ret) { s with t4 := false })) (.ok (.next { s with last := (amA s.mi s.ma s.st s.k), k := (IntKind.i64.wrap (s.k + 1)) })))))))))) (.ok (.stop (.exit 0) s))
abbrev f_sl (s : L_sl) := (t_sl s).rd s
def E_sl (s : L_sl) : Prop := s.k = 0 ∧ s.last = -1 ∧ s.m = lvs s.mi s.ma s.st ∧ hasL s.mi s.ma s.st = true
def I_sl (s : L_sl) : Prop := (0 ≤ s.k ∧ s.k ≤ s.m) ∧ s.last = lastL s.mi s.st s.k ∧ s.m = lvs s.mi s.ma s.st ∧ hasL s.mi s.ma s.st = true
def mu_sl (s : L_sl) : Nat := (s.m - s.k).toNat
def Q_sl (x : Ex) (_ s' : L_sl) : Prop := x = .exit 0 ∧ s'.last = lastL s'.mi s'.st s'.m
theorem sl_E : ∀ s, E_sl s → I_sl s := by
 intro s h
 obtain ⟨h0, h1, h2, h3⟩ := h
 have := lvs_pos h3
 exact ⟨by omega, by rw [h0, h1]; rfl, h2, h3⟩
theorem sl_da (s : L_sl) (hI : I_sl s) : allR (fun s' => I_sl s' ∧ mu_sl s' < mu_sl s) (fun x s' => Q_sl x s s') (f_sl s) := by
 unfold f_sl t_sl
 dsimp only [T.rd, T.rl]
 obtain ⟨⟨h0, h1⟩, h2, h3, h4⟩ := hI
 have hb := lvs_bd (mi := s.mi) (ma := s.ma) (st := s.st)
 refine allR_ite (fun c1 => ?_) (fun c1 => ?_)
 ·refine allR_ite (fun c2 => ?_) (fun c2 => ?_)
  ·have d1 : s.k < s.m := by simpa using c1
   obtain ⟨e1, e2, e3, e4, e5, e6, e7⟩ := lev_round h4 h0 (by omega) h2
   first | exact absurd (e1.symm.trans c2) (by decide) | exact absurd (e2.symm.trans c2) (by decide) | exact absurd (e3.symm.trans c2) (by decide) | exact absurd (e7.symm.trans c2) (by decide) | exact absurd ((e4 (by assumption)).symm.trans c2) (by decide) | exact absurd ((e5 (by assumption)).symm.trans c2) (by decide) | exact absurd ((e6 (by assumption)).symm.trans c2) (by decide)
  ·refine allR_ite (fun c3 => ?_) (fun c3 => ?_)
   ·have d1 : s.k < s.m := by simpa using c1
    obtain ⟨e1, e2, e3, e4, e5, e6, e7⟩ := lev_round h4 h0 (by omega) h2
    first | exact absurd (e1.symm.trans c3) (by decide) | exact absurd (e2.symm.trans c3) (by decide) | exact absurd (e3.symm.trans c3) (by decide) | exact absurd (e7.symm.trans c3) (by decide) | exact absurd ((e4 (by assumption)).symm.trans c3) (by decide) | exact absurd ((e5 (by assumption)).symm.trans c3) (by decide) | exact absurd ((e6 (by assumption)).symm.trans c3) (by decide)
   ·refine allR_ite (fun c4 => ?_) (fun c4 => ?_)
    ·have d1 : s.k < s.m := by simpa using c1
     obtain ⟨e1, e2, e3, e4, e5, e6, e7⟩ := lev_round h4 h0 (by omega) h2
     first | exact absurd (e1.symm.trans c4) (by decide) | exact absurd (e2.symm.trans c4) (by decide) | exact absurd (e3.symm.trans c4) (by decide) | exact absurd (e7.symm.trans c4) (by decide) | exact absurd ((e4 (by assumption)).symm.trans c4) (by decide) | exact absurd ((e5 (by assumption)).symm.trans c4) (by decide) | exact absurd ((e6 (by assumption)).symm.trans c4) (by decide)
    ·refine allR_ite (fun c5 => ?_) (fun c5 => ?_)
     ·refine allR_ite (fun c6 => ?_) (fun c6 => ?_)
      ·have d1 : s.k < s.m := by simpa using c1
       obtain ⟨e1, e2, e3, e4, e5, e6, e7⟩ := lev_round h4 h0 (by omega) h2
       first | exact absurd (e1.symm.trans c6) (by decide) | exact absurd (e2.symm.trans c6) (by decide) | exact absurd (e3.symm.trans c6) (by decide) | exact absurd (e7.symm.trans c6) (by decide) | exact absurd ((e4 (by assumption)).symm.trans c6) (by decide) | exact absurd ((e5 (by assumption)).symm.trans c6) (by decide) | exact absurd ((e6 (by assumption)).symm.trans c6) (by decide)
      ·refine allR_ite (fun c7 => ?_) (fun c7 => ?_)
       ·refine allR_ite (fun c8 => ?_) (fun c8 => ?_)
        ·have d1 : s.k < s.m := by simpa using c1
         obtain ⟨e1, e2, e3, e4, e5, e6, e7⟩ := lev_round h4 h0 (by omega) h2
         first | exact absurd (e1.symm.trans c8) (by decide) | exact absurd (e2.symm.trans c8) (by decide) | exact absurd (e3.symm.trans c8) (by decide) | exact absurd (e7.symm.trans c8) (by decide) | exact absurd ((e4 (by assumption)).symm.trans c8) (by decide) | exact absurd ((e5 (by assumption)).symm.trans c8) (by decide) | exact absurd ((e6 (by assumption)).symm.trans c8) (by decide)
        ·refine allR_ite (fun c9 => ?_) (fun c9 => ?_)
         ·refine allR_ite (fun c10 => ?_) (fun c10 => ?_)
          ·have d1 : s.k < s.m := by simpa using c1
           obtain ⟨e1, e2, e3, e4, e5, e6, e7⟩ := lev_round h4 h0 (by omega) h2
           first | exact absurd (e1.symm.trans c10) (by decide) | exact absurd (e2.symm.trans c10) (by decide) | exact absurd (e3.symm.trans c10) (by decide) | exact absurd (e7.symm.trans c10) (by decide) | exact absurd ((e4 (by assumption)).symm.trans c10) (by decide) | exact absurd ((e5 (by assumption)).symm.trans c10) (by decide) | exact absurd ((e6 (by assumption)).symm.trans c10) (by decide)
          ·refine allR_ite (fun c11 => ?_) (fun c11 => ?_)
           ·have d1 : s.k < s.m := by simpa using c1
            obtain ⟨e1, e2, e3, e4, e5, e6, e7⟩ := lev_round h4 h0 (by omega) h2
            first | exact absurd (e1.symm.trans c11) (by decide) | exact absurd (e2.symm.trans c11) (by decide) | exact absurd (e3.symm.trans c11) (by decide) | exact absurd (e7.symm.trans c11) (by decide) | exact absurd ((e4 (by assumption)).symm.trans c11) (by decide) | exact absurd ((e5 (by assumption)).symm.trans c11) (by decide) | exact absurd ((e6 (by assumption)).symm.trans c11) (by decide)
           ·have d1 : s.k < s.m := by simpa using c1
            obtain ⟨e1, e2, e3, e4, e5, e6, e7⟩ := lev_round h4 h0 (by omega) h2
            rw [wrapS (x := s.k + 1) (by omega) (by omega)]
            exact ⟨⟨⟨by simp only; omega, by simp only; omega⟩, by simp only; exact lastL_succ h4 h0 (by omega), h3, h4⟩, by simp only [mu_sl]; omega⟩
         ·refine allR_ite (fun c10 => ?_) (fun c10 => ?_)
          ·have d1 : s.k < s.m := by simpa using c1
           obtain ⟨e1, e2, e3, e4, e5, e6, e7⟩ := lev_round h4 h0 (by omega) h2
           first | exact absurd (e1.symm.trans c10) (by decide) | exact absurd (e2.symm.trans c10) (by decide) | exact absurd (e3.symm.trans c10) (by decide) | exact absurd (e7.symm.trans c10) (by decide) | exact absurd ((e4 (by assumption)).symm.trans c10) (by decide) | exact absurd ((e5 (by assumption)).symm.trans c10) (by decide) | exact absurd ((e6 (by assumption)).symm.trans c10) (by decide)
          ·have d1 : s.k < s.m := by simpa using c1
           obtain ⟨e1, e2, e3, e4, e5, e6, e7⟩ := lev_round h4 h0 (by omega) h2
           rw [wrapS (x := s.k + 1) (by omega) (by omega)]
           exact ⟨⟨⟨by simp only; omega, by simp only; omega⟩, by simp only; exact lastL_succ h4 h0 (by omega), h3, h4⟩, by simp only [mu_sl]; omega⟩
       ·refine allR_ite (fun c8 => ?_) (fun c8 => ?_)
        ·refine allR_ite (fun c9 => ?_) (fun c9 => ?_)
         ·have d1 : s.k < s.m := by simpa using c1
          obtain ⟨e1, e2, e3, e4, e5, e6, e7⟩ := lev_round h4 h0 (by omega) h2
          first | exact absurd (e1.symm.trans c9) (by decide) | exact absurd (e2.symm.trans c9) (by decide) | exact absurd (e3.symm.trans c9) (by decide) | exact absurd (e7.symm.trans c9) (by decide) | exact absurd ((e4 (by assumption)).symm.trans c9) (by decide) | exact absurd ((e5 (by assumption)).symm.trans c9) (by decide) | exact absurd ((e6 (by assumption)).symm.trans c9) (by decide)
         ·refine allR_ite (fun c10 => ?_) (fun c10 => ?_)
          ·have d1 : s.k < s.m := by simpa using c1
           obtain ⟨e1, e2, e3, e4, e5, e6, e7⟩ := lev_round h4 h0 (by omega) h2
           first | exact absurd (e1.symm.trans c10) (by decide) | exact absurd (e2.symm.trans c10) (by decide) | exact absurd (e3.symm.trans c10) (by decide) | exact absurd (e7.symm.trans c10) (by decide) | exact absurd ((e4 (by assumption)).symm.trans c10) (by decide) | exact absurd ((e5 (by assumption)).symm.trans c10) (by decide) | exact absurd ((e6 (by assumption)).symm.trans c10) (by decide)
          ·have d1 : s.k < s.m := by simpa using c1
           obtain ⟨e1, e2, e3, e4, e5, e6, e7⟩ := lev_round h4 h0 (by omega) h2
           rw [wrapS (x := s.k + 1) (by omega) (by omega)]
           exact ⟨⟨⟨by simp only; omega, by simp only; omega⟩, by simp only; exact lastL_succ h4 h0 (by omega), h3, h4⟩, by simp only [mu_sl]; omega⟩
        ·refine allR_ite (fun c9 => ?_) (fun c9 => ?_)
         ·have d1 : s.k < s.m := by simpa using c1
          obtain ⟨e1, e2, e3, e4, e5, e6, e7⟩ := lev_round h4 h0 (by omega) h2
          first | exact absurd (e1.symm.trans c9) (by decide) | exact absurd (e2.symm.trans c9) (by decide) | exact absurd (e3.symm.trans c9) (by decide) | exact absurd (e7.symm.trans c9) (by decide) | exact absurd ((e4 (by assumption)).symm.trans c9) (by decide) | exact absurd ((e5 (by assumption)).symm.trans c9) (by decide) | exact absurd ((e6 (by assumption)).symm.trans c9) (by decide)
         ·have d1 : s.k < s.m := by simpa using c1
          obtain ⟨e1, e2, e3, e4, e5, e6, e7⟩ := lev_round h4 h0 (by omega) h2
          rw [wrapS (x := s.k + 1) (by omega) (by omega)]
          exact ⟨⟨⟨by simp only; omega, by simp only; omega⟩, by simp only; exact lastL_succ h4 h0 (by omega), h3, h4⟩, by simp only [mu_sl]; omega⟩
     ·refine allR_ite (fun c6 => ?_) (fun c6 => ?_)
      ·refine allR_ite (fun c7 => ?_) (fun c7 => ?_)
       ·have d1 : s.k < s.m := by simpa using c1
        obtain ⟨e1, e2, e3, e4, e5, e6, e7⟩ := lev_round h4 h0 (by omega) h2
        first | exact absurd (e1.symm.trans c7) (by decide) | exact absurd (e2.symm.trans c7) (by decide) | exact absurd (e3.symm.trans c7) (by decide) | exact absurd (e7.symm.trans c7) (by decide) | exact absurd ((e4 (by assumption)).symm.trans c7) (by decide) | exact absurd ((e5 (by assumption)).symm.trans c7) (by decide) | exact absurd ((e6 (by assumption)).symm.trans c7) (by decide)
       ·refine allR_ite (fun c8 => ?_) (fun c8 => ?_)
        ·refine allR_ite (fun c9 => ?_) (fun c9 => ?_)
         ·have d1 : s.k < s.m := by simpa using c1
          obtain ⟨e1, e2, e3, e4, e5, e6, e7⟩ := lev_round h4 h0 (by omega) h2
          first | exact absurd (e1.symm.trans c9) (by decide) | exact absurd (e2.symm.trans c9) (by decide) | exact absurd (e3.symm.trans c9) (by decide) | exact absurd (e7.symm.trans c9) (by decide) | exact absurd ((e4 (by assumption)).symm.trans c9) (by decide) | exact absurd ((e5 (by assumption)).symm.trans c9) (by decide) | exact absurd ((e6 (by assumption)).symm.trans c9) (by decide)
         ·refine allR_ite (fun c10 => ?_) (fun c10 => ?_)
          ·have d1 : s.k < s.m := by simpa using c1
           obtain ⟨e1, e2, e3, e4, e5, e6, e7⟩ := lev_round h4 h0 (by omega) h2
           first | exact absurd (e1.symm.trans c10) (by decide) | exact absurd (e2.symm.trans c10) (by decide) | exact absurd (e3.symm.trans c10) (by decide) | exact absurd (e7.symm.trans c10) (by decide) | exact absurd ((e4 (by assumption)).symm.trans c10) (by decide) | exact absurd ((e5 (by assumption)).symm.trans c10) (by decide) | exact absurd ((e6 (by assumption)).symm.trans c10) (by decide)
          ·have d1 : s.k < s.m := by simpa using c1
           obtain ⟨e1, e2, e3, e4, e5, e6, e7⟩ := lev_round h4 h0 (by omega) h2
           rw [wrapS (x := s.k + 1) (by omega) (by omega)]
           exact ⟨⟨⟨by simp only; omega, by simp only; omega⟩, by simp only; exact lastL_succ h4 h0 (by omega), h3, h4⟩, by simp only [mu_sl]; omega⟩
        ·refine allR_ite (fun c9 => ?_) (fun c9 => ?_)
         ·have d1 : s.k < s.m := by simpa using c1
          obtain ⟨e1, e2, e3, e4, e5, e6, e7⟩ := lev_round h4 h0 (by omega) h2
          first | exact absurd (e1.symm.trans c9) (by decide) | exact absurd (e2.symm.trans c9) (by decide) | exact absurd (e3.symm.trans c9) (by decide) | exact absurd (e7.symm.trans c9) (by decide) | exact absurd ((e4 (by assumption)).symm.trans c9) (by decide) | exact absurd ((e5 (by assumption)).symm.trans c9) (by decide) | exact absurd ((e6 (by assumption)).symm.trans c9) (by decide)
         ·have d1 : s.k < s.m := by simpa using c1
          obtain ⟨e1, e2, e3, e4, e5, e6, e7⟩ := lev_round h4 h0 (by omega) h2
          rw [wrapS (x := s.k + 1) (by omega) (by omega)]
          exact ⟨⟨⟨by simp only; omega, by simp only; omega⟩, by simp only; exact lastL_succ h4 h0 (by omega), h3, h4⟩, by simp only [mu_sl]; omega⟩
      ·refine allR_ite (fun c7 => ?_) (fun c7 => ?_)
       ·refine allR_ite (fun c8 => ?_) (fun c8 => ?_)
        ·have d1 : s.k < s.m := by simpa using c1
         obtain ⟨e1, e2, e3, e4, e5, e6, e7⟩ := lev_round h4 h0 (by omega) h2
         first | exact absurd (e1.symm.trans c8) (by decide) | exact absurd (e2.symm.trans c8) (by decide) | exact absurd (e3.symm.trans c8) (by decide) | exact absurd (e7.symm.trans c8) (by decide) | exact absurd ((e4 (by assumption)).symm.trans c8) (by decide) | exact absurd ((e5 (by assumption)).symm.trans c8) (by decide) | exact absurd ((e6 (by assumption)).symm.trans c8) (by decide)
        ·refine allR_ite (fun c9 => ?_) (fun c9 => ?_)
         ·have d1 : s.k < s.m := by simpa using c1
          obtain ⟨e1, e2, e3, e4, e5, e6, e7⟩ := lev_round h4 h0 (by omega) h2
          first | exact absurd (e1.symm.trans c9) (by decide) | exact absurd (e2.symm.trans c9) (by decide) | exact absurd (e3.symm.trans c9) (by decide) | exact absurd (e7.symm.trans c9) (by decide) | exact absurd ((e4 (by assumption)).symm.trans c9) (by decide) | exact absurd ((e5 (by assumption)).symm.trans c9) (by decide) | exact absurd ((e6 (by assumption)).symm.trans c9) (by decide)
         ·have d1 : s.k < s.m := by simpa using c1
          obtain ⟨e1, e2, e3, e4, e5, e6, e7⟩ := lev_round h4 h0 (by omega) h2
          rw [wrapS (x := s.k + 1) (by omega) (by omega)]
          exact ⟨⟨⟨by simp only; omega, by simp only; omega⟩, by simp only; exact lastL_succ h4 h0 (by omega), h3, h4⟩, by simp only [mu_sl]; omega⟩
       ·refine allR_ite (fun c8 => ?_) (fun c8 => ?_)
        ·have d1 : s.k < s.m := by simpa using c1
         obtain ⟨e1, e2, e3, e4, e5, e6, e7⟩ := lev_round h4 h0 (by omega) h2
         first | exact absurd (e1.symm.trans c8) (by decide) | exact absurd (e2.symm.trans c8) (by decide) | exact absurd (e3.symm.trans c8) (by decide) | exact absurd (e7.symm.trans c8) (by decide) | exact absurd ((e4 (by assumption)).symm.trans c8) (by decide) | exact absurd ((e5 (by assumption)).symm.trans c8) (by decide) | exact absurd ((e6 (by assumption)).symm.trans c8) (by decide)
        ·have d1 : s.k < s.m := by simpa using c1
         obtain ⟨e1, e2, e3, e4, e5, e6, e7⟩ := lev_round h4 h0 (by omega) h2
         rw [wrapS (x := s.k + 1) (by omega) (by omega)]
         exact ⟨⟨⟨by simp only; omega, by simp only; omega⟩, by simp only; exact lastL_succ h4 h0 (by omega), h3, h4⟩, by simp only [mu_sl]; omega⟩
 ·have c1 : s.m ≤ s.k := by simpa using c1
  exact ⟨rfl, by rw [h2, show s.k = s.m by omega]⟩
def D_sl : LpD L_sl := ⟨0, 158, [1, 2, 4, 5, 6, 7, 35, 36], [], A_sl, B_sl, fun v b => ⟨gI (v.getD 0 .junk), gBo (v.getD 2 .junk), gBo (v.getD 3 .junk), gI (v.getD 4 .junk), gI (v.getD 5 .junk), gI (v.getD 6 .junk), gI (v.getD 7 .junk), gSr (gCe (gBk b 0) 0), gI (gCe (gBk b 0) 1), gI (gCe (gBk b 0) 2), gI (gCe (gBk b 0) 3), gI (gCe (gBk b 0) 4), gI (gCe (gBk b 0) 5), gI (gCe (gBk b 0) 6), gI (gCe (gBk b 0) 7)⟩, t_sl, fun s r => { r with amps := s.amps, up_ := s.up_, n := s.n, m := s.m, nm := s.nm, at_ := s.at_, ph := s.ph, mi := s.mi, ma := s.ma, st := s.st, fb := s.fb, ow := s.ow }, fun s => s, fun _ s => s, [.ret, .exit 0], E_sl, I_sl, mu_sl⟩
abbrev run_sl := D_sl.run
abbrev exn_sl := D_sl.exn
abbrev E_slq := D_sl.q
set_option maxRecDepth 100000 in
set_option maxHeartbeats 4000000 in
theorem rq_sl (s : L_sl) (_ : I_sl s) : (t_sl s).all (fun _ => True) := by
 refine ⟨fun c1 => ⟨fun _ => trivial, fun c2 => ⟨fun _ => trivial, fun c3 => ⟨fun _ => trivial, fun c4 => ⟨fun c5 => ⟨fun _ => trivial, fun c6 => ⟨fun c7 => ⟨fun _ => trivial, fun c8 => ⟨fun c9 => ⟨fun _ => trivial, fun c10 => ⟨?_, fun _ => trivial, fun _ => trivial⟩⟩, fun c9 => ⟨?_, fun _ => trivial, fun _ => trivial⟩⟩⟩, fun c7 => ⟨fun c13 => ⟨fun _ => trivial, fun c14 => ⟨?_, fun _ => trivial, fun _ => trivial⟩⟩, fun c13 => ⟨?_, fun _ => trivial, fun _ => trivial⟩⟩⟩⟩, fun c5 => ⟨fun c17 => ⟨fun _ => trivial, fun c18 => ⟨fun c19 => ⟨fun _ => trivial, fun c20 => ⟨?_, fun _ => trivial, fun _ => trivial⟩⟩, fun c19 => ⟨?_, fun _ => trivial, fun _ => trivial⟩⟩⟩, fun c17 => ⟨fun c23 => ⟨fun _ => trivial, fun c24 => ⟨?_, fun _ => trivial, fun _ => trivial⟩⟩, fun c23 => ⟨?_, fun _ => trivial, fun _ => trivial⟩⟩⟩⟩⟩⟩⟩, fun _ => trivial⟩
 all_goals ((have := amA_bd (mi := s.mi) (ma := s.ma) (st := s.st) (k := s.k); omega))
noncomputable def gam66 : Specs := specsOf [(10, S_head), (12, S_ampsE), (17, S_lvls), (19, S_levl), (21, S_rhas)]
theorem gok66 : ∀ g S, gam66 g = some S → Valid Try.prog noGlobs g S := specs_ok (l := [(10, S_head), (12, S_ampsE), (17, S_lvls), (19, S_levl), (21, S_rhas)]) ⟨v_head, v_ampsE, v_lvls, v_levl, v_rhas, trivial⟩
theorem ok_sl : D_sl.Ok := ⟨fun s => by kernel_rfl, fun s => by kernel_rfl, fun s => rfl, fun s t r => rfl, fun s => rfl, fun s => by kernel_rfl⟩
theorem pf_sl : D_sl.Pf (Q_sl) := ⟨sl_E, fun _ _ => rfl, sl_da, rq_sl⟩
set_option maxRecDepth 100000 in
set_option maxHeartbeats 4000000 in
theorem snd_sl : SoundA Try.prog noGlobs (AN 0) (.loop body_sl) D_sl.lp := LpD.snd ok_sl pf_sl (code_sound (Γ := gam66) (K := noK) (L := noLoops) gok66 noK_sound body_sl (fun b hb => by rw [show loopsIn body_sl = [] by kernel_rfl] at hb; cases hb)) (fun s => by kernel_rfl)
theorem sl_fin (s : L_sl) (hE : E_sl s) : ∃ s', I_sl s' ∧ Q_sl (exn_sl s) s' (run_sl s) := LpD.fin ok_sl pf_sl s hE
def S0_l2 : List LV → T LV
 | [.v (.agg ⟨[.string _, .int .i64 _, .int .i64 _, .int .i64 _, .int .i64 _, .int .i64 _, .int .i64 _, .int .i64 _]⟩), .v (.int .u8 amps)] => .req (0 ≤ amps ∧ amps ≤ 255) (.ok (.v (.bool true)))
 | _ => .no
noncomputable def S_l2 : List LV → T LV := upS Try.prog Try.f4.params.toList S0_l2
theorem nf_l2 (nm : ByteArray) (at_ ph mi ma st fb ow amps : Int) : funu Try.prog noGlobs (gam66) noK (fun i => if i = 7 then D_sl.lp else noLoops i) Try.f4 [.v (.agg #[.string nm, .int .i64 at_, .int .i64 ph, .int .i64 mi, .int .i64 ma, .int .i64 st, .int .i64 fb, .int .i64 ow]), .v (.int .u8 amps)] = .br (!(hasL mi ma st)) (.br true (.br ((lvs mi ma st) == 0) (.req ((IntKind.i64.wrap amps) ≤ 9223372036854775807) (.ok (.v (.bool ((lev mi ma st (IntKind.i64.wrap amps)) == (-1)))))) (.ok (.v (.bool false)))) (.ok (.v (.bool false)))) (.req (E_slq (⟨amps, false, true, (-1 : Int), (lvs mi ma st), (lvs mi ma st), (0 : Int), nm, at_, ph, mi, ma, st, fb, ow⟩ : L_sl)) (.br (isEx (exn_sl (⟨amps, false, true, (-1 : Int), (lvs mi ma st), (lvs mi ma st), (0 : Int), nm, at_, ph, mi, ma, st, fb, ow⟩ : L_sl)) (.ret)) (.ok (.v (.bool (run_sl (⟨amps, false, true, (-1 : Int), (lvs mi ma st), (lvs mi ma st), (0 : Int), nm, at_, ph, mi, ma, st, fb, ow⟩ : L_sl)).t4))) (.req ((IntKind.i64.wrap amps) ≤ 9223372036854775807) (.ok (.v (.bool (true && ((decide ((lvs mi ma st) ≥ 2)) && ((decide ((IntKind.i64.wrap ((run_sl (⟨amps, false, true, (-1 : Int), (lvs mi ma st), (lvs mi ma st), (0 : Int), nm, at_, ph, mi, ma, st, fb, ow⟩ : L_sl)).last + st)) > ma)) && (((amE mi ma st (lev mi ma st (IntKind.i64.wrap amps))) == 0) && ((decide ((amA mi ma st (lev mi ma st (IntKind.i64.wrap amps))) ≤ (IntKind.i64.wrap amps))) && (if (amE mi ma st (IntKind.i64.wrap ((lev mi ma st (IntKind.i64.wrap amps)) + 1))) != 0 then ((lev mi ma st (IntKind.i64.wrap amps)) == (IntKind.i64.wrap ((lvs mi ma st) - 1))) || (((amE mi ma st (IntKind.i64.wrap ((lev mi ma st (IntKind.i64.wrap amps)) + 1))) == 0) && (decide ((amA mi ma st (IntKind.i64.wrap ((lev mi ma st (IntKind.i64.wrap amps)) + 1))) > (IntKind.i64.wrap amps)))) else ((amE mi ma st (IntKind.i64.wrap ((lev mi ma st (IntKind.i64.wrap amps)) + 1))) == 0) && (decide ((amA mi ma st (IntKind.i64.wrap ((lev mi ma st (IntKind.i64.wrap amps)) + 1))) > (IntKind.i64.wrap amps))))))))))))))) := by kernel_rfl
theorem v_l2 : Valid Try.prog noGlobs 4 S_l2 := valid_ofu Try.func4 rfl gok66 noK_sound (L := (fun i => if i = 7 then D_sl.lp else noLoops i)) (fun b hb => by
 rw [show loopsIn _ = [body_sl] by kernel_rfl] at hb
 simp only [List.mem_cons, List.not_mem_nil, or_false] at hb
 subst hb
 exact snd_sl) (fun args lv h => by
 unfold S0_l2 at h
 split at h
 ·simp only [canL, canX]
  rw [nf_l2]
  rename_i nm at_ ph mi ma st fb ow amps
  obtain ⟨hA, rfl⟩ := h
  have ew : IntKind.i64.wrap amps = amps := wrapS (by omega) (by omega)
  rw [ew]
  refine ⟨fun c => ?_, fun c => ?_⟩
  ·have c : hasL mi ma st = false := nt c
   have e1 : lvs mi ma st = 0 := lvs_zero c
   have e2 : lev mi ma st amps = -1 := by unfold lev; rw [if_pos (.inl c)]
   rw [e1, e2]
   exact ⟨fun _ => ⟨fun _ => ⟨by omega, rfl⟩, fun h => by cases h⟩, fun h => by cases h⟩
  ·have c : hasL mi ma st = true := nf c
   have hE : E_sl ⟨amps, false, true, (-1 : Int), (lvs mi ma st), (lvs mi ma st), (0 : Int), nm, at_, ph, mi, ma, st, fb, ow⟩ := ⟨rfl, rfl, rfl, c⟩
   obtain ⟨s', _, q1, q2⟩ := sl_fin _ hE
   have q2 : (run_sl ⟨amps, false, true, (-1 : Int), (lvs mi ma st), (lvs mi ma st), (0 : Int), nm, at_, ph, mi, ma, st, fb, ow⟩).last = lastL mi st (lvs mi ma st) := q2
   refine ⟨⟨hE, rfl, rfl⟩, fun h => (by rw [q1] at h; cases h), fun _ => ⟨by omega, congrArg (fun z => LV.v (.bool z)) ?_⟩⟩
   rw [q2]
   exact lev_last c hA.1 hA.2
 ·cases h)
end Go.Proofs.Ytihbikkkmoaljaa
