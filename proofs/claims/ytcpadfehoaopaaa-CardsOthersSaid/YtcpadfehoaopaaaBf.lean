/- Small functions of package cards: what they compute, by the executor. -/
import Derived.Test.YtcpadfehoaopaaaBp
namespace Go.Proofs.Ytcpadfehoaopaaa
open Go.Sx
def S0_isEp : List LV → T LV
  | [.v (.int .i64 n)] => .ok (.v (.bool (inB n 0 1000000)))
  | _ => .no
noncomputable def S_isEp : List LV → T LV := upS Try.prog Try.f31.params.toList S0_isEp
theorem nf_isEp (n : Int) : funu Try.prog noGlobs (specsOf []) noK noLoops Try.f31 [.v (.int .i64 n)] = .ok (.v (.bool ((decide (n ≥ 0)) && (decide (n ≤ 1000000))))) := by kernel_rfl
theorem v_isEp : Valid Try.prog noGlobs 31 S_isEp := valid_ofu Try.func31 rfl (specs_ok (l := []) trivial) noK_sound (no_loops (by kernel_rfl)) (fun args lv h => by
  unfold S0_isEp at h
  split at h
  · simp only [canL, canX]
    rw [nf_isEp]
    exact h
  · cases h)
def S0_isNu : List LV → T LV
  | [.v (.int .i64 n)] => .ok (.v (.bool (inB n 1 1000000)))
  | _ => .no
noncomputable def S_isNu : List LV → T LV := upS Try.prog Try.f30.params.toList S0_isNu
theorem nf_isNu (n : Int) : funu Try.prog noGlobs (specsOf []) noK noLoops Try.f30 [.v (.int .i64 n)] = .ok (.v (.bool ((decide (n ≥ 1)) && (decide (n ≤ 1000000))))) := by kernel_rfl
theorem v_isNu : Valid Try.prog noGlobs 30 S_isNu := valid_ofu Try.func30 rfl (specs_ok (l := []) trivial) noK_sound (no_loops (by kernel_rfl)) (fun args lv h => by
  unfold S0_isNu at h
  split at h
  · simp only [canL, canX]
    rw [nf_isNu]
    exact h
  · cases h)
def S0_cNum : List LV → T LV
  | [.v (.agg ⟨[.int .i64 nu, .int .i64 co, .int .i64 fi, .int .i64 la]⟩)] => .ok (.v (.int .i64 nu))
  | _ => .no
noncomputable def S_cNum : List LV → T LV := upS Try.prog Try.f65.params.toList S0_cNum
theorem nf_cNum (nu co fi la : Int) : funu Try.prog noGlobs (specsOf []) noK noLoops Try.f65 [.v (.agg #[.int .i64 nu, .int .i64 co, .int .i64 fi, .int .i64 la])] = .ok (.v (.int .i64 nu)) := by kernel_rfl
theorem v_cNum : Valid Try.prog noGlobs 65 S_cNum := valid_ofu Try.func65 rfl (specs_ok (l := []) trivial) noK_sound (no_loops (by kernel_rfl)) (fun args lv h => by
  unfold S0_cNum at h
  split at h
  · simp only [canL, canX]
    rw [nf_cNum]
    exact h
  · cases h)
def S0_vNum : List LV → T LV
  | [.v (.agg ⟨[.int .i64 nu, .int .i64 ep]⟩)] => .ok (.v (.int .i64 nu))
  | _ => .no
noncomputable def S_vNum : List LV → T LV := upS Try.prog Try.f67.params.toList S0_vNum
theorem nf_vNum (nu ep : Int) : funu Try.prog noGlobs (specsOf []) noK noLoops Try.f67 [.v (.agg #[.int .i64 nu, .int .i64 ep])] = .ok (.v (.int .i64 nu)) := by kernel_rfl
theorem v_vNum : Valid Try.prog noGlobs 67 S_vNum := valid_ofu Try.func67 rfl (specs_ok (l := []) trivial) noK_sound (no_loops (by kernel_rfl)) (fun args lv h => by
  unfold S0_vNum at h
  split at h
  · simp only [canL, canX]
    rw [nf_vNum]
    exact h
  · cases h)
def S0_cVal : List LV → T LV
  | [.v (.agg ⟨[.int .i64 nu, .int .i64 co, .int .i64 fi, .int .i64 la]⟩)] => .ok (.v (.bool (cvB co fi la)))
  | _ => .no
noncomputable def S_cVal : List LV → T LV := upS Try.prog Try.f66.params.toList S0_cVal
theorem nf_cVal (nu co fi la : Int) : funu Try.prog noGlobs (specsOf [(31, S_isEp)]) noK noLoops Try.f66 [.v (.agg #[.int .i64 nu, .int .i64 co, .int .i64 fi, .int .i64 la])] = .ok (.v (.bool ((decide (co ≥ 0)) && ((decide (co < 32)) && ((inB fi 0 1000000) && ((inB la 0 1000000) && (decide (fi ≤ la)))))))) := by kernel_rfl
theorem v_cVal : Valid Try.prog noGlobs 66 S_cVal := valid_ofu Try.func66 rfl (specs_ok (l := [(31, S_isEp)]) ⟨v_isEp, trivial⟩) noK_sound (no_loops (by kernel_rfl)) (fun args lv h => by
  unfold S0_cVal at h
  split at h
  · simp only [canL, canX]
    rw [nf_cVal]
    exact h
  · cases h)
def S0_vVal : List LV → T LV
  | [.v (.agg ⟨[.int .i64 nu, .int .i64 ep]⟩)] => .ok (.v (.bool (inB ep 0 1000000)))
  | _ => .no
noncomputable def S_vVal : List LV → T LV := upS Try.prog Try.f68.params.toList S0_vVal
theorem nf_vVal (nu ep : Int) : funu Try.prog noGlobs (specsOf [(31, S_isEp)]) noK noLoops Try.f68 [.v (.agg #[.int .i64 nu, .int .i64 ep])] = .ok (.v (.bool (inB ep 0 1000000))) := by kernel_rfl
theorem v_vVal : Valid Try.prog noGlobs 68 S_vVal := valid_ofu Try.func68 rfl (specs_ok (l := [(31, S_isEp)]) ⟨v_isEp, trivial⟩) noK_sound (no_loops (by kernel_rfl)) (fun args lv h => by
  unfold S0_vVal at h
  split at h
  · simp only [canL, canX]
    rw [nf_vVal]
    exact h
  · cases h)
def S0_cIn : List LV → T LV
  | [.v (.agg ⟨[.int .i64 nu, .int .i64 co, .int .i64 fi, .int .i64 la]⟩), .v (.int .i64 n)] => .ok (.v (.bool (inB n fi la)))
  | _ => .no
noncomputable def S_cIn : List LV → T LV := upS Try.prog Try.f33.params.toList S0_cIn
theorem nf_cIn (nu co fi la n : Int) : funu Try.prog noGlobs (specsOf []) noK noLoops Try.f33 [.v (.agg #[.int .i64 nu, .int .i64 co, .int .i64 fi, .int .i64 la]), .v (.int .i64 n)] = .ok (.v (.bool ((decide (n ≥ fi)) && (decide (n ≤ la))))) := by kernel_rfl
theorem v_cIn : Valid Try.prog noGlobs 33 S_cIn := valid_ofu Try.func33 rfl (specs_ok (l := []) trivial) noK_sound (no_loops (by kernel_rfl)) (fun args lv h => by
  unfold S0_cIn at h
  split at h
  · simp only [canL, canX]
    rw [nf_cIn]
    exact h
  · cases h)
def S0_cOf1 : List LV → T LV
  | [.v (.agg ⟨[.int .i64 nu, .int .i64 co, .int .i64 fi, .int .i64 la]⟩)] => .ok (.v (.agg #[.int .i64 nu, .int .i64 co, .int .i64 fi, .int .i64 la]))
  | _ => .no
noncomputable def S_cOf1 : List LV → T LV := upS Try.prog Try.f45.params.toList S0_cOf1
theorem nf_cOf1 (nu co fi la : Int) : funu Try.prog noGlobs (specsOf []) noK noLoops Try.f45 [.v (.agg #[.int .i64 nu, .int .i64 co, .int .i64 fi, .int .i64 la])] = .ok (.v (.agg #[.int .i64 nu, .int .i64 co, .int .i64 fi, .int .i64 la])) := by kernel_rfl
theorem v_cOf1 : Valid Try.prog noGlobs 45 S_cOf1 := valid_ofu Try.func45 rfl (specs_ok (l := []) trivial) noK_sound (no_loops (by kernel_rfl)) (fun args lv h => by
  unfold S0_cOf1 at h
  split at h
  · simp only [canL, canX]
    rw [nf_cOf1]
    exact h
  · cases h)
def S0_vOf1 : List LV → T LV
  | [.v (.agg ⟨[.int .i64 nu, .int .i64 ep]⟩)] => .ok (.v (.agg #[.int .i64 nu, .int .i64 ep]))
  | _ => .no
noncomputable def S_vOf1 : List LV → T LV := upS Try.prog Try.f47.params.toList S0_vOf1
theorem nf_vOf1 (nu ep : Int) : funu Try.prog noGlobs (specsOf []) noK noLoops Try.f47 [.v (.agg #[.int .i64 nu, .int .i64 ep])] = .ok (.v (.agg #[.int .i64 nu, .int .i64 ep])) := by kernel_rfl
theorem v_vOf1 : Valid Try.prog noGlobs 47 S_vOf1 := valid_ofu Try.func47 rfl (specs_ok (l := []) trivial) noK_sound (no_loops (by kernel_rfl)) (fun args lv h => by
  unfold S0_vOf1 at h
  split at h
  · simp only [canL, canX]
    rw [nf_vOf1]
    exact h
  · cases h)
def S0_jn2 : List LV → T LV
  | [.v (.agg ⟨[.int .i64 nu, .int .i64 ep]⟩)] => .ok (.v (.agg #[.int .i64 nu, .int .i64 ep]))
  | _ => .no
noncomputable def S_jn2 : List LV → T LV := upS Try.prog Try.f42.params.toList S0_jn2
theorem nf_jn2 (nu ep : Int) : funu Try.prog noGlobs (specsOf []) noK noLoops Try.f42 [.v (.agg #[.int .i64 nu, .int .i64 ep])] = .ok (.v (.agg #[.int .i64 nu, .int .i64 ep])) := by kernel_rfl
theorem v_jn2 : Valid Try.prog noGlobs 42 S_jn2 := valid_ofu Try.func42 rfl (specs_ok (l := []) trivial) noK_sound (no_loops (by kernel_rfl)) (fun args lv h => by
  unfold S0_jn2 at h
  split at h
  · simp only [canL, canX]
    rw [nf_jn2]
    exact h
  · cases h)
def S0_jn1 : List LV → T LV
  | [.v (.agg ⟨[.int .i64 a, .int .i64 b]⟩), .v (.agg ⟨[.int .i64 c, .int .i64 d]⟩)] => .br (decide (d < b)) (.ok (.v (.agg #[.int .i64 c, .int .i64 d]))) (.ok (.v (.agg #[.int .i64 a, .int .i64 b])))
  | _ => .no
noncomputable def S_jn1 : List LV → T LV := upS Try.prog Try.f40.params.toList S0_jn1
theorem nf_jn1 (a b c d : Int) : funu Try.prog noGlobs (specsOf []) noK noLoops Try.f40 [.v (.agg #[.int .i64 a, .int .i64 b]), .v (.agg #[.int .i64 c, .int .i64 d])] = .br (decide (d < b)) (.ok (.v (.agg #[.int .i64 c, .int .i64 d]))) (.ok (.v (.agg #[.int .i64 a, .int .i64 b]))) := by kernel_rfl
theorem v_jn1 : Valid Try.prog noGlobs 40 S_jn1 := valid_ofu Try.func40 rfl (specs_ok (l := []) trivial) noK_sound (no_loops (by kernel_rfl)) (fun args lv h => by
  unfold S0_jn1 at h
  split at h
  · simp only [canL, canX]
    rw [nf_jn1]
    exact h
  · cases h)
end Go.Proofs.Ytcpadfehoaopaaa
