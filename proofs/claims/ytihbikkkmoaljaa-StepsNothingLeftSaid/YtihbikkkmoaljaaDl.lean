/- Paths: what is computed, by the executor. -/
import Derived.Test.YtihbikkkmoaljaaDk
import Derived.Test.YtihbikkkmoaljaaDv
namespace Go.Proofs.Ytihbikkkmoaljaa
open Go.Sx
def S0_path : List LV → T LV
 | [.agg [.xl (.pair .str (.pair (.int .i64) (.pair (.int .i64) (.pair (.int .i64) (.pair (.pair (.int .i64) (.int .i64)) (.pair (.int .i64) (.pair (.int .i64) (.pair (.int .i64) (.pair (.int .i64) (.int .i64)))))))))) cs, .xl (.str) os, .xl (.pair .str (.pair (.int .i64) (.pair (.int .i64) (.int .i64)))) ks, .xl (.pair .str (.pair (.int .i64) (.pair (.int .i64) (.pair (.int .i64) (.pair (.int .i64) (.pair (.int .i64) (.pair (.int .i64) (.int .i64)))))))) gs, .xl (.pair .str (.int .i64)) bs], .v (.int .i64 c)] => .ok (.fn 71 [.xq 1 (fun j => ([.v (.int .i64 c)] : List LV).getD j .junk), .xq 5 (fun j => ([.xl tCd cs, .xl .str os, .xl tKo ks, .xl tCh gs, .xl tBa bs] : List LV).getD j .junk)])
 | _ => .no
noncomputable def S_path : List LV → T LV := upS Try.prog Try.f61.params.toList S0_path
noncomputable def gam15 : Specs := specsOf []
theorem gok15 : ∀ g S, gam15 g = some S → Valid Try.prog noGlobs g S := specs_ok (l := []) trivial
noncomputable def hnd16 : Hand := inl Try.prog noGlobs gam15 (unrL Try.prog noGlobs (gam15) 20 2) 9
theorem hok16 : KSound Try.prog noGlobs hnd16 := inl_sound gok15 (unrL_ok gok15) 9
theorem nf_path (cs : List (ByteArray × (Int × (Int × (Int × ((Int × Int) × (Int × (Int × (Int × (Int × Int)))))))))) (os : List ByteArray) (ks : List (ByteArray × (Int × (Int × Int)))) (gs : List (ByteArray × (Int × (Int × (Int × (Int × (Int × (Int × Int)))))))) (bs : List (ByteArray × Int)) (c : Int) : funu Try.prog noGlobs (gam15) hnd16 noLoops Try.f61 [.agg [.xl tCd cs, .xl .str os, .xl tKo ks, .xl tCh gs, .xl tBa bs], .v (.int .i64 c)] = .ok (.fn 71 [.xq 1 (fun j => ([.v (.int .i64 c)] : List LV).getD j .junk), .xq 5 (fun j => ([.xl tCd cs, .xl .str os, .xl tKo ks, .xl tCh gs, .xl tBa bs] : List LV).getD j .junk)]) := by kernel_rfl
theorem v_path : Valid Try.prog noGlobs 61 S_path := valid_ofu Try.func61 rfl gok15 hok16 (no_loops (by kernel_rfl)) (fun args lv h => by
 unfold S0_path at h
 split at h
 ·simp only [canL, canX]
  rw [nf_path]
  exact h
 ·cases h)
noncomputable def rr_r0 : Array Tmp × Code × Code := ((rangesIn (Try.f60.body.getD .skip))[0]?).getD (#[], .skip, .skip)
noncomputable def rp_r0 : Array Tmp := rr_r0.1
noncomputable def ra_r0 : Code := rr_r0.2.1
noncomputable def rb_r0 : Code := rr_r0.2.2
structure L_pth where
 cs : List (ByteArray × (Int × (Int × (Int × ((Int × Int) × (Int × (Int × (Int × (Int × Int)))))))))
 os : List ByteArray
 ks : List (ByteArray × (Int × (Int × Int)))
 gs : List (ByteArray × (Int × (Int × (Int × (Int × (Int × (Int × Int)))))))
 bs : List (ByteArray × Int)
 c : Int
 b0 : Int
 b1 : Bool
 st : LS
def A_pth (s : L_pth) : List LV := [.yld 2, .xq 5 (fun j => ([.xl tCd s.cs, .xl .str s.os, .xl tKo s.ks, .xl tCh s.gs, .xl tBa s.bs] : List LV).getD j .junk), .v (.int .i64 s.c)]
noncomputable def B_pth (s : L_pth) : List Blk := [⟨[.v (.int .i64 s.b0)], 3, .cl, false⟩, ⟨[.v (.bool s.b1)], 4, .cl, false⟩, ⟨[.junk, .junk, .junk, .own 0 0, .own 1 0, .v (.tuple #[]), .junk, .v (.tuple #[]), .v (.tuple #[]), .v (.tuple #[]), .v (.tuple #[])], 0, .lrec rp_r0 ra_r0 rb_r0 s.st, false⟩]
noncomputable def body_pth : Code := ((loopsIn (Try.f71.body.getD .skip))[0]?).getD .skip
def t_pth (s : L_pth) : T (Rd L_pth) :=
 .br (decide (s.c ≥ 0)) (.br (s.c == s.b0) (.ok (.stop (.ret) { s with b1 := true, st := (.done (.ret)) })) (.req (0 ≤ s.c ∧ s.c < (List.length s.cs : Int)) (.ok (.next { s with c := (gCd s.cs s.c).2.1 })))) (.ok (.stop (.exit 0) s))
abbrev f_pth (s : L_pth) := (t_pth s).rd s
def E_pth (s : L_pth) : Prop := s.st = .ready ∧ upB s.cs = true ∧ s.c < (s.cs.length : Int) ∧ s.b1 = false
def I_pth (s : L_pth) : Prop := s.st = .ready ∧ upB s.cs = true ∧ s.c < (s.cs.length : Int)
def mu_pth (s : L_pth) : Nat := (s.c + 1).toNat
def Q_pth (x : Ex) (s s' : L_pth) : Prop := (x = .ret ∧ s'.b1 = true ∧ onP s.cs s.b0 s.c = true) ∨ (x = .exit 0 ∧ onP s.cs s.b0 s.c = false)
theorem pth_E : ∀ s, E_pth s → I_pth s := by
 intro s h
 obtain ⟨h0, h1, h2, h3⟩ := h
 exact ⟨h0, h1, h2⟩
theorem pth_da (s : L_pth) (hI : I_pth s) : allR (fun s' => I_pth s' ∧ mu_pth s' < mu_pth s) (fun x s' => Q_pth x s s') (f_pth s) := by
 unfold f_pth t_pth
 dsimp only [T.rd, T.rl]
 obtain ⟨h0, h1, h2⟩ := hI
 have hp := onP_eq (o := s.b0) h1 h2
 refine allR_ite (fun c1 => allR_ite (fun c2 => ?_) (fun c2 => ?_)) (fun c1 => ?_)
 ·have c1 : 0 ≤ s.c := by simpa using c1
  exact .inl ⟨rfl, rfl, by rw [hp, if_pos c1, c2]; rfl⟩
 ·have c1 : 0 ≤ s.c := by simpa using c1
  have := upB_lt h1 c1 h2
  exact ⟨⟨h0, h1, by simp only; omega⟩, by simp only [mu_pth]; omega⟩
 ·have c1 : ¬ (0 ≤ s.c) := by simpa using c1
  exact .inr ⟨rfl, by rw [hp, if_neg c1]⟩
noncomputable def D_pth : LpD L_pth := ⟨3, 18, [0, 2, 4], [], A_pth, B_pth, fun v b => ⟨gXl tCd (gXq (v.getD 1 .junk) 0), gXl .str (gXq (v.getD 1 .junk) 1), gXl tKo (gXq (v.getD 1 .junk) 2), gXl tCh (gXq (v.getD 1 .junk) 3), gXl tBa (gXq (v.getD 1 .junk) 4), gI (v.getD 2 .junk), gI (gCe (gBk b 0) 0), gBo (gCe (gBk b 1) 0), .ready⟩, t_pth, fun s r => { r with cs := s.cs, os := s.os, ks := s.ks, gs := s.gs, bs := s.bs, b0 := s.b0 }, fun s => { s with st := .ready }, fun x s => { s with st := (match x with | .ret => (.done (.ret)) | .exit 0 => .ready | _ => .ready) }, [.ret, .exit 0], E_pth, I_pth, mu_pth⟩
noncomputable abbrev run_pth := D_pth.run
noncomputable abbrev exn_pth := D_pth.exn
abbrev E_pthq := D_pth.q
theorem rq_pth (s : L_pth) (hI : I_pth s) : (t_pth s).all (fun _ => True) := by
 refine ⟨fun c1 => ⟨fun _ => trivial, fun c2 => ⟨?_, trivial⟩⟩, fun _ => trivial⟩
 ·(obtain ⟨h0, h1, h2⟩ := hI; simp at c1 h2; exact ⟨c1, h2⟩)
theorem ok_pth : D_pth.Ok := ⟨fun s => by kernel_rfl, fun s => by kernel_rfl, fun s => rfl, fun s t r => rfl, fun s => rfl, fun s => by kernel_rfl⟩
theorem pf_pth : D_pth.Pf (Q_pth) := ⟨pth_E, fun s h => by
 obtain ⟨cs, os, ks, gs, bs, c, b0, b1, st⟩ := s
 have e : st = .ready := h.1
 subst e
 rfl, pth_da, rq_pth⟩
theorem snd_pth : SoundA Try.prog noGlobs (AN 3) (.loop body_pth) D_pth.lp := LpD.snd ok_pth pf_pth (code_soundA (Γ := gam15) (K := hnd16) (L := (unrC Try.prog noGlobs gam15 hnd16 20 2)) gok15 hok16 body_pth (fun b _ => unrC_sound gok15 hok16 20 2 b)) (fun s => by kernel_rfl)
theorem pth_fin (s : L_pth) (hE : E_pth s) : ∃ s', I_pth s' ∧ Q_pth (exn_pth s) s' (run_pth s) := LpD.fin ok_pth pf_pth s hE
theorem pth_on (s : L_pth) (hE : E_pth s) : (exn_pth s = .ret ∧ (run_pth s).b1 = true ∧ onP s.cs s.b0 s.c = true) ∨ (exn_pth s = .exit 0 ∧ onP s.cs s.b0 s.c = false) := by
 have hk := LpD.keepV ok_pth pf_pth (fun s => onP s.cs s.b0 s.c) (fun s hI => by
  obtain ⟨h0, h1, h2⟩ := hI
  have hp := onP_eq (o := s.b0) h1 h2
  show allR _ _ (f_pth s)
  unfold f_pth t_pth
  dsimp only [T.rd, T.rl]
  refine allR_ite (fun c1 => allR_ite (fun c2 => rfl) (fun c2 => ?_)) (fun c1 => rfl)
  have c1 : 0 ≤ s.c := by simpa using c1
  show onP _ _ _ = onP _ _ _
  rw [hp, if_pos c1, c2, Bool.false_or]) s hE
 have hk : onP s.cs s.b0 (run_pth s).c = onP s.cs s.b0 s.c := hk
 obtain ⟨s', hI, hf⟩ := LpD.end_ ok_pth pf_pth s hE
 have hq := allR_stop (pth_da s' hI) hf
 have hc := allR_stop (Pn := fun _ => True) (Ps := fun _ r => r.cs = s'.cs ∧ r.b0 = s'.b0 ∧ r.c = s'.c) (r := f_pth s') (by
   unfold f_pth t_pth
   dsimp only [T.rd, T.rl]
   exact allR_ite (fun _ => allR_ite (fun _ => ⟨rfl, rfl, rfl⟩) (fun _ => trivial)) (fun _ => ⟨rfl, rfl, rfl⟩)) hf
 obtain ⟨hc1, hc3, hc2⟩ := hc
 have e1 : s.cs = s'.cs := hc1
 have e2 : s.b0 = s'.b0 := hc3
 rw [← hk, hc2, e1, e2]
 exact hq
def S0_has : List LV → T LV
 | [.fn 71 [.xq 1 q0, .xq 5 q1], .v (.int .i64 o)] => (match ([q0 0] : List LV) with
  | [.v (.int .i64 c)] => (match ([q1 0, q1 1, q1 2, q1 3, q1 4] : List LV) with
  | [.xl (.pair .str (.pair (.int .i64) (.pair (.int .i64) (.pair (.int .i64) (.pair (.pair (.int .i64) (.int .i64)) (.pair (.int .i64) (.pair (.int .i64) (.pair (.int .i64) (.pair (.int .i64) (.int .i64)))))))))) cs, .xl (.str) _, .xl (.pair .str (.pair (.int .i64) (.pair (.int .i64) (.int .i64)))) _, .xl (.pair .str (.pair (.int .i64) (.pair (.int .i64) (.pair (.int .i64) (.pair (.int .i64) (.pair (.int .i64) (.pair (.int .i64) (.int .i64)))))))) _, .xl (.pair .str (.int .i64)) _] => .req (upB cs = true ∧ c < (List.length cs : Int)) (.ok (.v (.bool (onP cs o c))))
  | _ => .no)
  | _ => .no)
 | _ => .no
noncomputable def S_has : List LV → T LV := upS Try.prog Try.f60.params.toList S0_has
noncomputable def hnd17 : Hand := inl Try.prog noGlobs gam15 (addL 71 3 1 (D_pth.lp) (unrL Try.prog noGlobs (gam15) 20 2)) 9
theorem hok17 : KSound Try.prog noGlobs hnd17 := inl_sound gok15 (addL_ok Try.func71 rfl (by kernel_rfl) snd_pth (unrL_ok gok15)) 9
theorem nf_has (c : Int) (cs : List (ByteArray × (Int × (Int × (Int × ((Int × Int) × (Int × (Int × (Int × (Int × Int)))))))))) (os : List ByteArray) (ks : List (ByteArray × (Int × (Int × Int)))) (gs : List (ByteArray × (Int × (Int × (Int × (Int × (Int × (Int × Int)))))))) (bs : List (ByteArray × Int)) (o : Int) : funu Try.prog noGlobs (gam15) hnd17 noLoops Try.f60 [.fn 71 [.xq 1 (fun j => ([.v (.int .i64 c)] : List LV).getD j .junk), .xq 5 (fun j => ([.xl tCd cs, .xl .str os, .xl tKo ks, .xl tCh gs, .xl tBa bs] : List LV).getD j .junk)], .v (.int .i64 o)] = .req (E_pthq (⟨cs, os, ks, gs, bs, c, o, false, .ready⟩ : L_pth)) (.br (isEx (exn_pth (⟨cs, os, ks, gs, bs, c, o, false, .ready⟩ : L_pth)) (.ret)) (.ok (.v (.bool (run_pth (⟨cs, os, ks, gs, bs, c, o, false, .ready⟩ : L_pth)).b1))) (.ok (.v (.bool false)))) := by kernel_rfl
theorem v_has : Valid Try.prog noGlobs 60 S_has := valid_ofu Try.func60 rfl gok15 hok17 (no_loops (by kernel_rfl)) (fun args lv h => by
 unfold S0_has at h
 split at h
 ·split at h
  case h_2 => cases h
  rename_i heq0
  split at h
  case h_2 => cases h
  rename_i heq1
  simp only [canL, canX]
  rw [show (List.range 1).map _ = _ from heq0]
  rw [show (List.range 5).map _ = _ from heq1]
  rw [nf_has]
  obtain ⟨⟨hu, hc⟩, rfl⟩ := h
  refine andI ⟨⟨rfl, hu, hc, rfl⟩, rfl, rfl⟩ (fun hE => ?_)
  rcases pth_on _ hE.1 with ⟨h1, h2, h3⟩ | ⟨h1, h2⟩
  ·rw [h1, h2]
   exact ⟨fun _ => congrArg (fun z => LV.v (.bool z)) h3.symm, fun h => by cases h⟩
  ·rw [h1]
   exact ⟨fun h => (by cases h), fun _ => congrArg (fun z => LV.v (.bool z)) h2.symm⟩
 ·cases h)
end Go.Proofs.Ytihbikkkmoaljaa
