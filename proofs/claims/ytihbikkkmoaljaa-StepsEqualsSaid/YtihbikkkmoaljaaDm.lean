/- Below: what it computes, by the executor. -/
import Derived.Test.YtihbikkkmoaljaaDl
namespace Go.Proofs.Ytihbikkkmoaljaa
open Go.Sx
structure L_bl where
 l : List (ByteArray × (Int × (Int × (Int × (Int × (Int × (Int × Int)))))))
 n : Int
 i : Int
 b0_Conductors : List (ByteArray × (Int × (Int × (Int × ((Int × Int) × (Int × (Int × (Int × (Int × Int)))))))))
 b0_Owners : List ByteArray
 b0_Contracts : List (ByteArray × (Int × (Int × Int)))
 b0_Chargers : List (ByteArray × (Int × (Int × (Int × (Int × (Int × (Int × Int)))))))
 b0_Bays : List (ByteArray × Int)
 b1 : Int
 out : List Int
def A_bl (s : L_bl) : List LV := [.fn 59 [.own 0 0, .own 1 0], .os 2 1 0 (List.length s.out), .xl tCh s.l, .v (.int .i64 s.n), .v (.int .i64 s.i)]
def B_bl (s : L_bl) : List Blk := [⟨[.xl tCd s.b0_Conductors, .xl .str s.b0_Owners, .xl tKo s.b0_Contracts, .xl tCh s.b0_Chargers, .xl tBa s.b0_Bays], 30, .cl, false⟩, ⟨[.v (.int .i64 s.b1)], 3, .cl, false⟩, ⟨[], 3, .vec (.int .i64) s.out, false⟩]
noncomputable def body_bl : Code := ((loopsIn (Try.f42.body.getD .skip))[0]?).getD .skip
def t_bl (s : L_bl) : T (Rd L_bl) :=
 .br (decide (s.i < s.n)) (.req (0 ≤ s.i ∧ s.i < (List.length s.l : Int)) (.req (upB s.b0_Conductors = true ∧ (gCh s.l s.i).2.1 < (List.length s.b0_Conductors : Int)) (.br (onP s.b0_Conductors s.b1 (gCh s.l s.i).2.1) (.req (0 + (List.length s.out) = List.length s.out ∧ ((List.length s.out + List.length ([s.i]) : Nat) : Int) * 8 ≤ 2 ^ 47 ∧ ((List.length s.out + List.length ([s.i]) : Nat) : Int) < 2 ^ 62) (.req (0 = 0 ∧ (List.length s.out + List.length ([s.i])) = List.length (s.out ++ ([s.i]))) (.ok (.next { s with i := (IntKind.i64.wrap (s.i + 1)), out := (s.out ++ ([s.i])) })))) (.rl s.out (.ok (.next { s with i := (IntKind.i64.wrap (s.i + 1)) })))))) (.rl s.out (.ok (.stop (.exit 0) s)))
abbrev f_bl (s : L_bl) := (t_bl s).rd s
def E_bl (s : L_bl) : Prop := s.i = 0 ∧ s.out = [] ∧ s.n = (s.l.length : Int) ∧ s.n ≤ 1000 ∧ upB s.b0_Conductors = true ∧ atB s.b0_Conductors s.l = true
def I_bl (s : L_bl) : Prop := (0 ≤ s.i ∧ s.i ≤ s.n) ∧ s.out = belN s.b0_Conductors s.l s.b1 s.i.toNat ∧ s.n = (s.l.length : Int) ∧ s.n ≤ 1000 ∧ upB s.b0_Conductors = true ∧ atB s.b0_Conductors s.l = true
def mu_bl (s : L_bl) : Nat := (s.n - s.i).toNat
def Q_bl (x : Ex) (_ s' : L_bl) : Prop := x = .exit 0 ∧ s'.out = belN s'.b0_Conductors s'.l s'.b1 s'.l.length
theorem bl_E : ∀ s, E_bl s → I_bl s := by
 intro s h
 obtain ⟨h0, h1, h2, h3, h4, h5⟩ := h
 exact ⟨⟨by omega, by omega⟩, by rw [h0, h1]; rfl, h2, h3, h4, h5⟩
theorem bl_da (s : L_bl) (hI : I_bl s) : allR (fun s' => I_bl s' ∧ mu_bl s' < mu_bl s) (fun x s' => Q_bl x s s') (f_bl s) := by
 unfold f_bl t_bl
 dsimp only [T.rd, T.rl]
 obtain ⟨⟨h0, h1⟩, h2, h3, h4, h5, h6⟩ := hI
 refine allR_ite (fun c1 => ?_) (fun c1 => ?_)
 ·have c1 : s.i < s.n := by simpa using c1
  have hs := belN_succ (cs := s.b0_Conductors) (gs := s.l) (o := s.b1) (k := s.i.toNat)
  rw [show s.i.toNat + 1 = (s.i + 1).toNat by omega, Int.toNat_of_nonneg h0] at hs
  rw [wrapS (x := s.i + 1) (by omega) (by omega)]
  refine allR_ite (fun c2 => ?_) (fun c2 => ?_)
  ·refine ⟨⟨⟨by simp only; omega, by simp only; omega⟩, ?_, h3, h4, h5, h6⟩, by simp only [mu_bl]; omega⟩
   simp only
   rw [hs, if_pos c2, h2]
  ·refine ⟨⟨⟨by simp only; omega, by simp only; omega⟩, ?_, h3, h4, h5, h6⟩, by simp only [mu_bl]; omega⟩
   simp only
   rw [hs, if_neg (by rw [c2]; simp), h2, List.append_nil]
 ·have c1 : s.n ≤ s.i := by simpa using c1
  exact ⟨rfl, by rw [h2, show s.i.toNat = s.l.length by omega]⟩
def D_bl : LpD L_bl := ⟨0, 42, [6, 7, 26, 27, 28], [.nl 7 3 (.int .i64)], A_bl, B_bl, fun v b => ⟨gXl tCh (v.getD 2 .junk), gI (v.getD 3 .junk), gI (v.getD 4 .junk), gXl tCd (gCe (gBk b 0) 0), gXl .str (gCe (gBk b 0) 1), gXl tKo (gCe (gBk b 0) 2), gXl tCh (gCe (gBk b 0) 3), gXl tBa (gCe (gBk b 0) 4), gI (gCe (gBk b 1) 0), gVe (.int .i64) (gBk b 2)⟩, t_bl, fun s r => { r with l := s.l, n := s.n, b0_Conductors := s.b0_Conductors, b0_Owners := s.b0_Owners, b0_Contracts := s.b0_Contracts, b0_Chargers := s.b0_Chargers, b0_Bays := s.b0_Bays, b1 := s.b1 }, fun s => s, fun _ s => s, [.exit 0], E_bl, I_bl, mu_bl⟩
abbrev run_bl := D_bl.run
abbrev exn_bl := D_bl.exn
abbrev E_blq := D_bl.q
theorem rq_bl (s : L_bl) (hI : I_bl s) : (t_bl s).all (fun _ => True) := by
 refine ⟨fun c1 => ⟨?_, ?_, fun c2 => ⟨?_, ?_, trivial⟩, fun c2 => ⟨⟨rfl, rfl⟩, trivial⟩⟩, fun c1 => ⟨⟨rfl, rfl⟩, trivial⟩⟩
 all_goals ((obtain ⟨⟨h0, h1⟩, h2, h3, h4, h5, h6⟩ := hI; have hol : s.out.length ≤ s.i.toNat := (by rw [h2]; exact belN_len); (try simp only [decide_eq_true_eq] at c1); first | omega | exact ⟨h5, atB_lt h6 h0 (by omega)⟩ | (refine ⟨by omega, ?_, ?_⟩ <;> simp only [List.length_cons, List.length_nil] <;> omega) | exact ⟨rfl, by simp⟩ | exact ⟨rfl, rfl⟩))
noncomputable def gam18 : Specs := specsOf [(40, S_sval), (60, S_has), (61, S_path)]
theorem gok18 : ∀ g S, gam18 g = some S → Valid Try.prog noGlobs g S := specs_ok (l := [(40, S_sval), (60, S_has), (61, S_path)]) ⟨v_sval, v_has, v_path, trivial⟩
noncomputable def hnd19 : Hand := inl Try.prog noGlobs gam18 (unrL Try.prog noGlobs (gam18) 20 2) 9
theorem hok19 : KSound Try.prog noGlobs hnd19 := inl_sound gok18 (unrL_ok gok18) 9
theorem ok_bl : D_bl.Ok := ⟨fun s => by kernel_rfl, fun s => by kernel_rfl, fun s => rfl, fun s t r => rfl, fun s => rfl, fun s => by kernel_rfl⟩
theorem pf_bl : D_bl.Pf (Q_bl) := ⟨bl_E, fun _ _ => rfl, bl_da, rq_bl⟩
theorem snd_bl : SoundA Try.prog noGlobs (AN 0) (.loop body_bl) D_bl.lp := LpD.snd ok_bl pf_bl (code_sound (Γ := gam18) (K := hnd19) (L := noLoops) gok18 hok19 body_bl (fun b hb => by rw [show loopsIn body_bl = [] by kernel_rfl] at hb; cases hb)) (fun s => by kernel_rfl)
theorem bl_fin (s : L_bl) (hE : E_bl s) : ∃ s', I_bl s' ∧ Q_bl (exn_bl s) s' (run_bl s) := LpD.fin ok_bl pf_bl s hE
def S0_below : List LV → T LV
 | [.agg [.xl (.pair .str (.pair (.int .i64) (.pair (.int .i64) (.pair (.int .i64) (.pair (.pair (.int .i64) (.int .i64)) (.pair (.int .i64) (.pair (.int .i64) (.pair (.int .i64) (.pair (.int .i64) (.int .i64)))))))))) cs, .xl (.str) os, .xl (.pair .str (.pair (.int .i64) (.pair (.int .i64) (.int .i64)))) ks, .xl (.pair .str (.pair (.int .i64) (.pair (.int .i64) (.pair (.int .i64) (.pair (.int .i64) (.pair (.int .i64) (.pair (.int .i64) (.int .i64)))))))) gs, .xl (.pair .str (.int .i64)) bs], .v (.int .i64 o)] => .ok (.tup [.xl (.int .i64) (belL cs os ks gs bs o), .v (.int .i64 (belE cs os ks gs bs o))])
 | _ => .no
noncomputable def S_below : List LV → T LV := upS Try.prog Try.f42.params.toList S0_below
theorem nf_below (cs : List (ByteArray × (Int × (Int × (Int × ((Int × Int) × (Int × (Int × (Int × (Int × Int)))))))))) (os : List ByteArray) (ks : List (ByteArray × (Int × (Int × Int)))) (gs : List (ByteArray × (Int × (Int × (Int × (Int × (Int × (Int × Int)))))))) (bs : List (ByteArray × Int)) (o : Int) : funu Try.prog noGlobs (gam18) hnd19 (fun i => if i = 6 then D_bl.lp else noLoops i) Try.f42 [.agg [.xl tCd cs, .xl .str os, .xl tKo ks, .xl tCh gs, .xl tBa bs], .v (.int .i64 o)] = .br ((!(siteV cs os ks gs bs)) || ((decide (o < 0)) || (decide (o ≥ (List.length cs : Int))))) (.ok (.tup [.xl (.int .i64) ([] : List Int), .v (.int .i64 1)])) (.req (0 = 0 ∧ 0 = List.length ([] : List Int)) (.req (E_blq (⟨gs, (List.length gs : Int), (0 : Int), cs, os, ks, gs, bs, o, ([] : List Int)⟩ : L_bl)) (.req (0 + (List.length (run_bl (⟨gs, (List.length gs : Int), (0 : Int), cs, os, ks, gs, bs, o, ([] : List Int)⟩ : L_bl)).out) ≤ List.length (run_bl (⟨gs, (List.length gs : Int), (0 : Int), cs, os, ks, gs, bs, o, ([] : List Int)⟩ : L_bl)).out) (.ok (.tup [.xl (.int .i64) (((run_bl (⟨gs, (List.length gs : Int), (0 : Int), cs, os, ks, gs, bs, o, ([] : List Int)⟩ : L_bl)).out.drop 0).take (List.length (run_bl (⟨gs, (List.length gs : Int), (0 : Int), cs, os, ks, gs, bs, o, ([] : List Int)⟩ : L_bl)).out)), .v (.int .i64 0)]))))) := by kernel_rfl
theorem v_below : Valid Try.prog noGlobs 42 S_below := valid_ofu Try.func42 rfl gok18 hok19 (L := (fun i => if i = 6 then D_bl.lp else noLoops i)) (fun b hb => by
 rw [show loopsIn _ = [body_bl] by kernel_rfl] at hb
 simp only [List.mem_cons, List.not_mem_nil, or_false] at hb
 subst hb
 exact snd_bl) (fun args lv h => by
 unfold S0_below at h
 split at h
 ·simp only [canL, canX]
  rw [nf_below]
  rename_i cs os ks gs bs o
  obtain rfl := h
  refine ⟨fun c => ?_, fun c => ?_⟩
  ·have hn : ¬ (siteV cs os ks gs bs = true ∧ 0 ≤ o ∧ o < (cs.length : Int)) := by
    rintro ⟨h1, h2, h3⟩
    rw [h1] at c
    simp at c
    omega
   show LV.tup _ = _
   unfold belL belE
   rw [if_neg hn, if_neg hn]
  ·simp only [Bool.or_eq_false_iff, Bool.not_eq_false', decide_eq_false_iff_not] at c
   have hp : siteV cs os ks gs bs = true ∧ 0 ≤ o ∧ o < (cs.length : Int) := ⟨c.1, by omega, by omega⟩
   have hl := (siteV_iff.1 c.1).1
   have hE : E_bl ⟨gs, (List.length gs : Int), (0 : Int), cs, os, ks, gs, bs, o, ([] : List Int)⟩ := ⟨rfl, rfl, rfl, by simp only; omega, siteV_up c.1, siteV_at c.1⟩
   obtain ⟨s', _, q1, q2⟩ := bl_fin _ hE
   have q2 : (run_bl ⟨gs, (List.length gs : Int), (0 : Int), cs, os, ks, gs, bs, o, ([] : List Int)⟩).out = belN cs gs o gs.length := q2
   refine ⟨⟨rfl, rfl⟩, ⟨hE, rfl, rfl⟩, by omega, ?_⟩
   show LV.tup [LV.xl _ _, _] = _
   rw [List.drop_zero, List.take_length, q2]
   unfold belL belE
   rw [if_pos hp, if_pos hp]
 ·cases h)
end Go.Proofs.Ytihbikkkmoaljaa
