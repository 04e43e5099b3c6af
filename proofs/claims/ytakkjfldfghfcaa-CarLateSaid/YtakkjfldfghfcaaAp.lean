/- Cars in plain Lean: what the functions of package car compute. -/
import Derived.Test.YtakkjfldfghfcaaRows
import Derived.Test.YtakkjfldfghfcaaSxR
namespace Go.Proofs.Ytakkjfldfghfcaa
open Go.Sx

theorem wrapS {x : Int} (h1 : -9223372036854775808 ≤ x) (h2 : x ≤ 9223372036854775807) : IntKind.i64.wrap x = x := by
  simp [IntKind.wrap, IntKind.bits, IntKind.signed]
  omega
def inB (n a b : Int) : Bool := decide (n ≥ a) && decide (n ≤ b)
theorem inB_iff {n a b : Int} : inB n a b = true ↔ a ≤ n ∧ n ≤ b := by simp [inB]
/-- A car is valid. -/
def carB (k ph mx nd dl : Int) : Bool := inB k 0 4 && (inB ph 1 7 && (inB mx 1 80 && (inB nd 0 1000000000 && (inB dl 0 20 && (k != 3 || decide (dl ≥ 1))))))
theorem carB_iff {k ph mx nd dl : Int} : carB k ph mx nd dl = true ↔ 0 ≤ k ∧ k ≤ 4 ∧ 1 ≤ ph ∧ ph ≤ 7 ∧ 1 ≤ mx ∧ mx ≤ 80 ∧ 0 ≤ nd ∧ nd ≤ 1000000000 ∧ 0 ≤ dl ∧ dl ≤ 20 ∧ (k = 3 → 1 ≤ dl) := by
  simp [carB, inB]; omega
def plE (k ph mx nd dl : Int) : Int := if carB k ph mx nd dl = true then 0 else 1
/-- What a car remembers is valid. -/
def mindB (pil : List Int) (tk got : Int) : Bool := decide (pil.length ≤ 21) && (inB tk 0 1000000 && (inB got 0 2000000000 && pil.all (fun p => inB p 0 80)))
theorem mindB_iff {pil : List Int} {tk got : Int} : mindB pil tk got = true ↔ pil.length ≤ 21 ∧ 0 ≤ tk ∧ tk ≤ 1000000 ∧ 0 ≤ got ∧ got ≤ 2000000000 ∧ ∀ p ∈ pil, 0 ≤ p ∧ p ≤ 80 := by
  simp [mindB, inB_iff, and_assoc]
def cnt (n : Int) : Int := n % 2 + n / 2 % 2 + n / 4 % 2
/-- Small numbers, one by one. -/
theorem eight {n : Int} (h1 : 0 ≤ n) (h2 : n ≤ 7) : n = 0 ∨ n = 1 ∨ n = 2 ∨ n = 3 ∨ n = 4 ∨ n = 5 ∨ n = 6 ∨ n = 7 := by omega
def land (a b : Int) : Int := andK .i64 a b
/-- The phases on which a car can draw. -/
def cmn (k ph p2 : Int) : Int := if k = 2 then land (land ph p2) (-land ph p2) else land ph p2
theorem land_small {a b : Int} (ha : 0 ≤ a ∧ a ≤ 7) (hb : 0 ≤ b ∧ b ≤ 7) : 0 ≤ land a b ∧ land a b ≤ 7 ∧ land a b ≤ a ∧ land a b ≤ b ∧ land (land a b) a = land a b ∧ land (land a b) b = land a b ∧ 0 ≤ land (land a b) (-land a b) ∧ land (land a b) (-land a b) ≤ 7 ∧ land (land (land a b) (-land a b)) a = land (land a b) (-land a b) ∧ land (land (land a b) (-land a b)) b = land (land a b) (-land a b) := by
  have key : ∀ x y : Fin 8, 0 ≤ land x.val y.val ∧ land x.val y.val ≤ 7 ∧ land x.val y.val ≤ x.val ∧ land x.val y.val ≤ y.val ∧ land (land x.val y.val) x.val = land x.val y.val ∧ land (land x.val y.val) y.val = land x.val y.val ∧ 0 ≤ land (land x.val y.val) (-land x.val y.val) ∧ land (land x.val y.val) (-land x.val y.val) ≤ 7 ∧ land (land (land x.val y.val) (-land x.val y.val)) x.val = land (land x.val y.val) (-land x.val y.val) ∧ land (land (land x.val y.val) (-land x.val y.val)) y.val = land (land x.val y.val) (-land x.val y.val) := by decide +kernel
  have := key ⟨a.toNat, by omega⟩ ⟨b.toNat, by omega⟩
  simp only [Int.toNat_of_nonneg ha.1, Int.toNat_of_nonneg hb.1] at this
  exact this
def ago (dl : Int) (pil : List Int) : Int := if (pil.length : Int) - dl ≥ 0 then pil.getD ((pil.length : Int) - dl).toNat 0 else 0
/-- What a car of a kind would draw. -/
def wish (k dl tk mx : Int) (pil : List Int) (al : Int) : Int :=
  if k = 1 then (if dl = 0 then al else min al (ago dl pil))
  else if k = 3 then (if (tk.tdiv dl).tmod 2 = 1 then 0 else al)
  else if k = 4 then (if al = 0 then 0 else mx) else al
def dA (k ph mx nd dl : Int) (pil : List Int) (tk got p2 al : Int) : Int := if cmn k ph p2 = 0 ∨ got ≥ nd then 0 else min mx (wish k dl tk mx pil al)
def dO (k ph mx nd dl : Int) (pil : List Int) (tk got p2 al : Int) : Int := if dA k ph mx nd dl pil tk got p2 al = 0 then 0 else cmn k ph p2
def dP (pil : List Int) (al : Int) : List Int := (pil ++ [al]).drop (pil.length - 20)
def dG (k ph mx nd dl : Int) (pil : List Int) (tk got p2 al : Int) : Int := got + 2300 * dA k ph mx nd dl pil tk got p2 al * cnt (dO k ph mx nd dl pil tk got p2 al)
def drB (k ph mx nd dl : Int) (pil : List Int) (tk got p2 al : Int) : Bool := carB k ph mx nd dl && (mindB pil tk got && (inB p2 1 7 && (inB al 0 80 && tk != 1000000)))
theorem drB_iff {k ph mx nd dl : Int} {pil : List Int} {tk got p2 al : Int} : drB k ph mx nd dl pil tk got p2 al = true ↔ carB k ph mx nd dl = true ∧ mindB pil tk got = true ∧ 1 ≤ p2 ∧ p2 ≤ 7 ∧ 0 ≤ al ∧ al ≤ 80 ∧ tk ≠ 1000000 := by
  simp [drB, inB_iff, and_assoc]
theorem cmn_small {k ph p2 : Int} (h1 : 1 ≤ ph ∧ ph ≤ 7) (h2 : 1 ≤ p2 ∧ p2 ≤ 7) : 0 ≤ cmn k ph p2 ∧ cmn k ph p2 ≤ 7 ∧ land (cmn k ph p2) ph = cmn k ph p2 ∧ land (cmn k ph p2) p2 = cmn k ph p2 := by
  obtain ⟨a1, a2, a3, a4, a5, a6, a7, a8, a9, a10⟩ := land_small (a := ph) (b := p2) ⟨by omega, by omega⟩ ⟨by omega, by omega⟩
  unfold cmn
  split
  · exact ⟨a7, a8, a9, a10⟩
  · exact ⟨a1, a2, a5, a6⟩
theorem ago_bound {dl : Int} {pil : List Int} (h : ∀ p ∈ pil, 0 ≤ p ∧ p ≤ 80) : 0 ≤ ago dl pil := by
  unfold ago
  split
  · rw [List.getD_eq_getElem?_getD]
    cases hg : pil[((pil.length : Int) - dl).toNat]? with
    | none => simp
    | some x => simp; exact (h x (List.mem_of_getElem? hg)).1
  · omega
theorem wish_bound {k ph mx nd dl : Int} {pil : List Int} {tk got al : Int} (hc : carB k ph mx nd dl = true) (hm : mindB pil tk got = true) (ha : 0 ≤ al) : 0 ≤ wish k dl tk mx pil al := by
  have hc := carB_iff.1 hc
  have hm := mindB_iff.1 hm
  have := ago_bound (dl := dl) hm.2.2.2.2.2
  unfold wish
  repeat' split
  all_goals omega
theorem dA_bound {k ph mx nd dl : Int} {pil : List Int} {tk got p2 al : Int} (hc : carB k ph mx nd dl = true) (hm : mindB pil tk got = true) (hp : 1 ≤ p2 ∧ p2 ≤ 7) (ha : 0 ≤ al ∧ al ≤ 80) :
    0 ≤ dA k ph mx nd dl pil tk got p2 al ∧ dA k ph mx nd dl pil tk got p2 al ≤ mx ∧ 0 ≤ dO k ph mx nd dl pil tk got p2 al ∧ dO k ph mx nd dl pil tk got p2 al ≤ 7 := by
  have hw := wish_bound hc hm ha.1
  have hc := carB_iff.1 hc
  have hs := cmn_small (k := k) (ph := ph) (p2 := p2) ⟨by omega, by omega⟩ hp
  have h1 : 0 ≤ dA k ph mx nd dl pil tk got p2 al ∧ dA k ph mx nd dl pil tk got p2 al ≤ mx := by unfold dA; split <;> omega
  refine ⟨h1.1, h1.2, ?_⟩
  unfold dO
  split <;> omega
/-- A phase more, as the reference does it. -/
def rst (b : Bool) (ph p2 bit out : Int) : Int := if ((IntKind.i64.wrap (ph.tdiv bit)).tmod 2 == 1) = true then (if (((IntKind.i64.wrap (p2.tdiv bit)).tmod 2 == 1) && ((out == 0) || b)) = true then IntKind.i64.wrap (out + bit) else out) else out
theorem rst3 {k ph p2 : Int} (h1 : 1 ≤ ph ∧ ph ≤ 7) (h2 : 1 ≤ p2 ∧ p2 ≤ 7) : rst (k != 2) ph p2 4 (rst (k != 2) ph p2 2 (rst (k != 2) ph p2 1 0)) = cmn k ph p2 := by
  have key : ∀ x y : Fin 8, ∀ b : Bool, rst b x.val y.val 4 (rst b x.val y.val 2 (rst b x.val y.val 1 0)) = if b = false then land (land x.val y.val) (-land x.val y.val) else land x.val y.val := by decide +kernel
  have := key ⟨ph.toNat, by omega⟩ ⟨p2.toNat, by omega⟩ (k != 2)
  simp only [Int.toNat_of_nonneg (show 0 ≤ ph by omega), Int.toNat_of_nonneg (show 0 ≤ p2 by omega)] at this
  rw [this]
  unfold cmn
  by_cases hk : k = 2 <;> simp [hk]
theorem cnt_small {n : Int} : 0 ≤ cnt n ∧ cnt n ≤ 3 := by unfold cnt; omega
theorem gotW {got a o : Int} (h1 : 0 ≤ got ∧ got ≤ 2000000000) (h2 : 0 ≤ a ∧ a ≤ 80) : IntKind.i64.wrap (got + IntKind.i64.wrap (IntKind.i64.wrap (2300 * a) * cnt o)) = got + 2300 * a * cnt o := by
  rw [wrapS (x := 2300 * a) (by omega) (by omega)]
  have hc := cnt_small (n := o)
  have : cnt o = 0 ∨ cnt o = 1 ∨ cnt o = 2 ∨ cnt o = 3 := by omega
  rcases this with e | e | e | e <;> rw [e, wrapS (x := 2300 * a * _) (by omega) (by omega), wrapS (by omega) (by omega)]
/-- What a car remembers after a tick is valid. -/
theorem mind_next {k ph mx nd dl : Int} {pil : List Int} {tk got p2 al : Int} (hB : drB k ph mx nd dl pil tk got p2 al = true) (hg : got ≤ nd + 6900 * mx) :
    mindB (dP pil al) (tk + 1) (dG k ph mx nd dl pil tk got p2 al) = true ∧ dG k ph mx nd dl pil tk got p2 al ≤ nd + 6900 * mx ∧ (nd ≤ got → dA k ph mx nd dl pil tk got p2 al = 0) ∧ (dA k ph mx nd dl pil tk got p2 al ≠ 0 → dG k ph mx nd dl pil tk got p2 al < nd + 6900 * mx)
    ∧ IntKind.i64.wrap (got + IntKind.i64.wrap (IntKind.i64.wrap (2300 * dA k ph mx nd dl pil tk got p2 al) * cnt (dO k ph mx nd dl pil tk got p2 al))) = dG k ph mx nd dl pil tk got p2 al ∧ (0 ≤ dO k ph mx nd dl pil tk got p2 al ∧ dO k ph mx nd dl pil tk got p2 al ≤ 7) := by
  obtain ⟨hc, hm, h1, h2, h3, h4, h5⟩ := drB_iff.1 hB
  obtain ⟨b1, b2, b3, b4⟩ := dA_bound (pil := pil) (tk := tk) (got := got) (nd := nd) hc hm ⟨h1, h2⟩ ⟨h3, h4⟩
  have hc' := carB_iff.1 hc
  have hm' := mindB_iff.1 hm
  have hz : nd ≤ got → dA k ph mx nd dl pil tk got p2 al = 0 := fun h => by unfold dA; rw [if_pos (.inr h)]
  have hW := gotW (got := got) (a := dA k ph mx nd dl pil tk got p2 al) (o := dO k ph mx nd dl pil tk got p2 al) ⟨by omega, by omega⟩ ⟨by omega, by omega⟩
  have hc0 := cnt_small (n := dO k ph mx nd dl pil tk got p2 al)
  have hG : 0 ≤ 2300 * dA k ph mx nd dl pil tk got p2 al * cnt (dO k ph mx nd dl pil tk got p2 al) ∧ 2300 * dA k ph mx nd dl pil tk got p2 al * cnt (dO k ph mx nd dl pil tk got p2 al) ≤ 6900 * dA k ph mx nd dl pil tk got p2 al := by
    have : cnt (dO k ph mx nd dl pil tk got p2 al) = 0 ∨ cnt (dO k ph mx nd dl pil tk got p2 al) = 1 ∨ cnt (dO k ph mx nd dl pil tk got p2 al) = 2 ∨ cnt (dO k ph mx nd dl pil tk got p2 al) = 3 := by omega
    rcases this with e | e | e | e <;> rw [e] <;> omega
  have hE : dG k ph mx nd dl pil tk got p2 al = got + 2300 * dA k ph mx nd dl pil tk got p2 al * cnt (dO k ph mx nd dl pil tk got p2 al) := rfl
  rw [← hE] at hW
  have hlen : (dP pil al).length ≤ 21 := by simp [dP]; omega
  have hall : ∀ p ∈ dP pil al, 0 ≤ p ∧ p ≤ 80 := fun p hp => by
    have := List.mem_of_mem_drop hp
    rcases List.mem_append.1 this with h | h
    · exact hm'.2.2.2.2.2 p h
    · simp at h; omega
  generalize dG k ph mx nd dl pil tk got p2 al = qG at *
  generalize dA k ph mx nd dl pil tk got p2 al = qA at *
  generalize dO k ph mx nd dl pil tk got p2 al = qO at *
  generalize 2300 * qA * cnt qO = qp at *
  exact ⟨mindB_iff.2 ⟨hlen, by omega, by omega, by omega, by omega, hall⟩, by omega, hz, by omega, hW, b3, b4⟩
theorem mind_zero : mindB [] 0 0 = true := by decide
end Go.Proofs.Ytakkjfldfghfcaa
