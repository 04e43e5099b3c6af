/- CarLate: what it computes. -/
import Derived.Test.YtakkjfldfghfcaaAq
namespace Go.Proofs.Ytakkjfldfghfcaa
open Go.Sx
theorem late_len {al : List Int} {i : Nat} (hi : i ≤ al.length) : ((al.take i).drop (i - 21)).length = i - (i - 21) := by
  rw [List.length_drop, List.length_take]; omega
theorem late_ago {al : List Int} {i : Nat} {dl : Int} (hi : i ≤ al.length) (h0 : 0 < dl) (h1 : dl ≤ 20) : ago dl ((al.take i).drop (i - 21)) = if dl ≤ i then gi al ((i : Int) - dl) else 0 := by
  unfold ago
  rw [late_len hi]
  by_cases h : dl ≤ i
  · rw [if_pos h, if_pos (by omega)]
    simp only [gi, List.getD_eq_getElem?_getD, List.getElem?_drop]
    rw [List.getElem?_take_of_lt (by omega)]
    congr 2
    omega
  · rw [if_neg h, if_neg (by omega)]
theorem late_next {al : List Int} {i : Nat} (hi : i < al.length) : dP ((al.take i).drop (i - 21)) (gi al i) = (al.take (i + 1)).drop (i + 1 - 21) := by
  unfold dP
  rw [late_len (by omega), gi_eq (by simpa using hi)]
  have e : (al.take i).drop (i - 21) ++ [al[((i : Nat) : Int).toNat]'(by simpa using hi)] = (al.take (i + 1)).drop (i - 21) := by
    rw [List.take_add_one, List.getElem?_eq_getElem hi, List.drop_append_of_le_length (by rw [List.length_take]; omega)]
    simp
  rw [e, List.drop_drop]
  congr 1
  omega
theorem late_draw {ph mx nd dl : Int} {pil : List Int} {tk got p2 al : Int} (hB : drB 1 ph mx nd dl pil tk got p2 al = true) :
    drB 0 ph mx nd dl pil tk got p2 al = true ∧ dA 1 ph mx nd dl pil tk got p2 al ≤ al ∧ (dl ≠ 0 → dA 1 ph mx nd dl pil tk got p2 al ≤ max 0 (ago dl pil)) ∧ (dl = 0 → dA 0 ph mx nd dl pil tk got p2 al = dA 1 ph mx nd dl pil tk got p2 al ∧ dO 0 ph mx nd dl pil tk got p2 al = dO 1 ph mx nd dl pil tk got p2 al) := by
  obtain ⟨hc, hm, h1, h2, h3, h4, h5⟩ := drB_iff.1 hB
  have hc' := carB_iff.1 hc
  have hc0 : carB 0 ph mx nd dl = true := carB_iff.2 ⟨by omega, by omega, by omega, by omega, by omega, by omega, by omega, by omega, by omega, by omega, fun h => by omega⟩
  have e1 : cmn 1 ph p2 = cmn 0 ph p2 := by simp [cmn]
  refine ⟨drB_iff.2 ⟨hc0, hm, h1, h2, h3, h4, h5⟩, ?_, fun hd => ?_, fun hd => ?_⟩
  · unfold dA
    split
    · omega
    · have : wish 1 dl tk mx pil al ≤ al := by
        simp only [wish, if_true]
        split <;> omega
      omega
  · unfold dA
    split
    · omega
    · have : wish 1 dl tk mx pil al = min al (ago dl pil) := by simp [wish, hd]
      omega
  · have hA : dA 0 ph mx nd dl pil tk got p2 al = dA 1 ph mx nd dl pil tk got p2 al := by
      unfold dA
      rw [e1]
      simp [wish, hd]
    refine ⟨hA, ?_⟩
    unfold dO
    rw [hA, e1]
theorem late_draw2 {k ph mx nd dl gk gph gmx gnd gdl : Int} {pil : List Int} {tk got p2 al : Int} (hk : k = 1) (hg : gk = 0 ∧ gph = ph ∧ gmx = mx ∧ gnd = nd ∧ gdl = dl) (hB : drB k ph mx nd dl pil tk got p2 al = true) :
    drB gk gph gmx gnd gdl pil tk got p2 al = true ∧ dA k ph mx nd dl pil tk got p2 al ≤ al ∧ (dl ≠ 0 → dA k ph mx nd dl pil tk got p2 al ≤ max 0 (ago dl pil)) ∧ (dl = 0 → dA gk gph gmx gnd gdl pil tk got p2 al = dA k ph mx nd dl pil tk got p2 al ∧ dO gk gph gmx gnd gdl pil tk got p2 al = dO k ph mx nd dl pil tk got p2 al) := by
  obtain ⟨rfl, rfl, rfl, rfl, rfl⟩ := hg
  subst hk
  exact late_draw hB
structure L_la where
  phases : Int
  allowed : List Int
  r : Bool
  up_ : Bool
  l : List Int
  n : Int
  i : Int
  c_Kind : Int
  c_Phases : Int
  c_Max : Int
  c_Need : Int
  c_Delay : Int
  s_Pilots : List Int
  s_Ticks : Int
  s_Got : Int
  good_Kind : Int
  good_Phases : Int
  good_Max : Int
  good_Need : Int
  good_Delay : Int
def A_la (s : L_la) : List LV := [.v (.int .i64 s.phases), .xl (.int .i64) s.allowed, .own 0 0, .v (.bool s.r), .v (.bool s.up_), .own 1 0, .own 2 0, .xl (.int .i64) s.l, .v (.int .i64 s.n), .v (.int .i64 s.i)]
def B_la (s : L_la) : List Blk := [⟨[.v (.int .i64 s.c_Kind), .v (.int .i64 s.c_Phases), .v (.int .i64 s.c_Max), .v (.int .i64 s.c_Need), .v (.int .i64 s.c_Delay)], 23, .cl, false⟩, ⟨[.xl (.int .i64) s.s_Pilots, .v (.int .i64 s.s_Ticks), .v (.int .i64 s.s_Got)], 26, .cl, false⟩, ⟨[.v (.int .i64 s.good_Kind), .v (.int .i64 s.good_Phases), .v (.int .i64 s.good_Max), .v (.int .i64 s.good_Need), .v (.int .i64 s.good_Delay)], 23, .cl, false⟩]
noncomputable def body_la : Code := ((loopsIn (Try.f7.body.getD .skip))[0]?).getD .skip
def fa_la (s : L_la) (vB : Bool) (vB2 : Bool) (vA : Int) (vi : Int) (vi2 : Int) (vA2 : Int) (vO : Int) (vO2 : Int) (vP : List Int) (vG : Int) : Rd L_la :=
  if (decide (s.i < s.n)) then
    if vB then
      if ((0 : Int) != 0) then
        .stop (.ret) { s with r := s.up_ }
      else
        if (decide (s.i ≥ s.c_Delay)) then
          if vB2 then
            if ((decide (vA > (if (vi) < (vi2) then vi else vi2))) || ((s.c_Delay == 0) && (((0 : Int) != 0) || ((vA2 != vA) || (vO != vO2))))) then
              .stop (.ret) { s with r := false }
            else
              .next { s with i := (IntKind.i64.wrap (s.i + 1)), s_Pilots := vP, s_Ticks := (s.s_Ticks + 1), s_Got := vG }
          else
            if ((decide (vA > (if (vi) < (vi2) then vi else vi2))) || ((s.c_Delay == 0) && (((1 : Int) != 0) || (((0 : Int) != vA) || ((0 : Int) != vO2))))) then
              .stop (.ret) { s with r := false }
            else
              .next { s with i := (IntKind.i64.wrap (s.i + 1)), s_Pilots := vP, s_Ticks := (s.s_Ticks + 1), s_Got := vG }
        else
          if vB2 then
            if ((decide (vA > (if (0 : Int) < (vi2) then 0 else vi2))) || ((s.c_Delay == 0) && (((0 : Int) != 0) || ((vA2 != vA) || (vO != vO2))))) then
              .stop (.ret) { s with r := false }
            else
              .next { s with i := (IntKind.i64.wrap (s.i + 1)), s_Pilots := vP, s_Ticks := (s.s_Ticks + 1), s_Got := vG }
          else
            if ((decide (vA > (if (0 : Int) < (vi2) then 0 else vi2))) || ((s.c_Delay == 0) && (((1 : Int) != 0) || (((0 : Int) != vA) || ((0 : Int) != vO2))))) then
              .stop (.ret) { s with r := false }
            else
              .next { s with i := (IntKind.i64.wrap (s.i + 1)), s_Pilots := vP, s_Ticks := (s.s_Ticks + 1), s_Got := vG }
    else
      if ((1 : Int) != 0) then
        .stop (.ret) { s with r := s.up_ }
      else
        if (decide (s.i ≥ s.c_Delay)) then
          if vB2 then
            if ((decide ((0 : Int) > (if (vi) < (vi2) then vi else vi2))) || ((s.c_Delay == 0) && (((0 : Int) != 0) || ((vA2 != 0) || (vO != 0))))) then
              .stop (.ret) { s with r := false }
            else
              .next { s with i := (IntKind.i64.wrap (s.i + 1)), s_Pilots := ([] : List Int), s_Ticks := (0 : Int), s_Got := (0 : Int) }
          else
            if ((decide ((0 : Int) > (if (vi) < (vi2) then vi else vi2))) || ((s.c_Delay == 0) && (((1 : Int) != 0) || (((0 : Int) != 0) || ((0 : Int) != 0))))) then
              .stop (.ret) { s with r := false }
            else
              .next { s with i := (IntKind.i64.wrap (s.i + 1)), s_Pilots := ([] : List Int), s_Ticks := (0 : Int), s_Got := (0 : Int) }
        else
          if vB2 then
            if ((decide ((0 : Int) > (if (0 : Int) < (vi2) then 0 else vi2))) || ((s.c_Delay == 0) && (((0 : Int) != 0) || ((vA2 != 0) || (vO != 0))))) then
              .stop (.ret) { s with r := false }
            else
              .next { s with i := (IntKind.i64.wrap (s.i + 1)), s_Pilots := ([] : List Int), s_Ticks := (0 : Int), s_Got := (0 : Int) }
          else
            if ((decide ((0 : Int) > (if (0 : Int) < (vi2) then 0 else vi2))) || ((s.c_Delay == 0) && (((1 : Int) != 0) || (((0 : Int) != 0) || ((0 : Int) != 0))))) then
              .stop (.ret) { s with r := false }
            else
              .next { s with i := (IntKind.i64.wrap (s.i + 1)), s_Pilots := ([] : List Int), s_Ticks := (0 : Int), s_Got := (0 : Int) }
  else
    .stop (.exit 0) s
def f_la (s : L_la) : Rd L_la := fa_la s (drB s.c_Kind s.c_Phases s.c_Max s.c_Need s.c_Delay s.s_Pilots s.s_Ticks s.s_Got s.phases ((gi s.l s.i))) (drB s.good_Kind s.good_Phases s.good_Max s.good_Need s.good_Delay s.s_Pilots s.s_Ticks s.s_Got s.phases ((gi s.l s.i))) (dA s.c_Kind s.c_Phases s.c_Max s.c_Need s.c_Delay s.s_Pilots s.s_Ticks s.s_Got s.phases ((gi s.l s.i))) (gi s.allowed (IntKind.i64.wrap (s.i - s.c_Delay))) (gi s.l s.i) (dA s.good_Kind s.good_Phases s.good_Max s.good_Need s.good_Delay s.s_Pilots s.s_Ticks s.s_Got s.phases ((gi s.l s.i))) (dO s.good_Kind s.good_Phases s.good_Max s.good_Need s.good_Delay s.s_Pilots s.s_Ticks s.s_Got s.phases ((gi s.l s.i))) (dO s.c_Kind s.c_Phases s.c_Max s.c_Need s.c_Delay s.s_Pilots s.s_Ticks s.s_Got s.phases ((gi s.l s.i))) (dP s.s_Pilots ((gi s.l s.i))) (dG s.c_Kind s.c_Phases s.c_Max s.c_Need s.c_Delay s.s_Pilots s.s_Ticks s.s_Got s.phases ((gi s.l s.i)))
def P_la (s : L_la) := ((), s.phases, s.allowed, s.up_, s.l, s.n, s.c_Kind, s.c_Phases, s.c_Max, s.c_Need, s.c_Delay, s.good_Kind, s.good_Phases, s.good_Max, s.good_Need, s.good_Delay)
theorem la_exa (s : L_la) (vB : Bool) (vB2 : Bool) (vA : Int) (vi : Int) (vi2 : Int) (vA2 : Int) (vO : Int) (vO2 : Int) (vP : List Int) (vG : Int) : allR (fun _ => True) (fun x _ => x = .ret ∨ x = .exit 0) (fa_la s vB vB2 vA vi vi2 vA2 vO vO2 vP vG) := by
  unfold fa_la
  exact allR_ite (fun c1 => allR_ite (fun c2 => allR_ite (fun c3 => (.inl rfl)) (fun c3 => allR_ite (fun c4 => allR_ite (fun c5 => allR_ite (fun c6 => (.inl rfl)) (fun c6 => trivial)) (fun c5 => allR_ite (fun c7 => (.inl rfl)) (fun c7 => trivial))) (fun c4 => allR_ite (fun c8 => allR_ite (fun c9 => (.inl rfl)) (fun c9 => trivial)) (fun c8 => allR_ite (fun c10 => (.inl rfl)) (fun c10 => trivial))))) (fun c2 => allR_ite (fun c11 => (.inl rfl)) (fun c11 => allR_ite (fun c12 => allR_ite (fun c13 => allR_ite (fun c14 => (.inl rfl)) (fun c14 => trivial)) (fun c13 => allR_ite (fun c15 => (.inl rfl)) (fun c15 => trivial))) (fun c12 => allR_ite (fun c16 => allR_ite (fun c17 => (.inl rfl)) (fun c17 => trivial)) (fun c16 => allR_ite (fun c18 => (.inl rfl)) (fun c18 => trivial)))))) (fun c1 => (.inr rfl))
theorem la_ex : ∀ s x s', f_la s = .stop x s' → x = .ret ∨ x = .exit 0 := fun s x s' h => allR_stop (la_exa s _ _ _ _ _ _ _ _ _ _) h
theorem la_ka (s : L_la) (vB : Bool) (vB2 : Bool) (vA : Int) (vi : Int) (vi2 : Int) (vA2 : Int) (vO : Int) (vO2 : Int) (vP : List Int) (vG : Int) : allR (fun s' => P_la s' = P_la s) (fun _ s' => P_la s' = P_la s) (fa_la s vB vB2 vA vi vi2 vA2 vO vO2 vP vG) := by
  unfold fa_la
  exact allR_ite (fun c1 => allR_ite (fun c2 => allR_ite (fun c3 => rfl) (fun c3 => allR_ite (fun c4 => allR_ite (fun c5 => allR_ite (fun c6 => rfl) (fun c6 => rfl)) (fun c5 => allR_ite (fun c7 => rfl) (fun c7 => rfl))) (fun c4 => allR_ite (fun c8 => allR_ite (fun c9 => rfl) (fun c9 => rfl)) (fun c8 => allR_ite (fun c10 => rfl) (fun c10 => rfl))))) (fun c2 => allR_ite (fun c11 => rfl) (fun c11 => allR_ite (fun c12 => allR_ite (fun c13 => allR_ite (fun c14 => rfl) (fun c14 => rfl)) (fun c13 => allR_ite (fun c15 => rfl) (fun c15 => rfl))) (fun c12 => allR_ite (fun c16 => allR_ite (fun c17 => rfl) (fun c17 => rfl)) (fun c16 => allR_ite (fun c18 => rfl) (fun c18 => rfl)))))) (fun c1 => rfl)
def E_la (s : L_la) : Prop := s.i = 0 ∧ s.s_Pilots = [] ∧ s.s_Ticks = 0 ∧ s.s_Got = 0 ∧ s.c_Kind = 1 ∧ carB s.c_Kind s.c_Phases s.c_Max s.c_Need s.c_Delay = true ∧ (s.good_Kind = 0 ∧ s.good_Phases = s.c_Phases ∧ s.good_Max = s.c_Max ∧ s.good_Need = s.c_Need ∧ s.good_Delay = s.c_Delay) ∧ s.up_ = true ∧ s.l = s.allowed ∧ s.n = s.l.length ∧ s.n ≤ 100
def I_la (s : L_la) : Prop := (0 ≤ s.i ∧ s.i ≤ s.n) ∧ (s.s_Pilots = (s.allowed.take s.i.toNat).drop (s.i.toNat - 21) ∧ s.s_Got ≤ s.c_Need + 6900 * s.c_Max ∧ s.s_Ticks = s.i ∧ mindB s.s_Pilots s.s_Ticks s.s_Got = true) ∧ s.c_Kind = 1 ∧ carB s.c_Kind s.c_Phases s.c_Max s.c_Need s.c_Delay = true ∧ (s.good_Kind = 0 ∧ s.good_Phases = s.c_Phases ∧ s.good_Max = s.c_Max ∧ s.good_Need = s.c_Need ∧ s.good_Delay = s.c_Delay) ∧ s.up_ = true ∧ s.l = s.allowed ∧ s.n = s.l.length ∧ s.n ≤ 100
def mu_la (s : L_la) : Nat := (s.n - s.i).toNat
def Q_la (x : Ex) (s s' : L_la) : Prop := (x = .ret ∧ s'.r = true) ∨ (x = .exit 0 ∧ s'.up_ = true)
theorem la_E : ∀ s, E_la s → I_la s := by
  intro s h
  obtain ⟨h0, h1, h2, h3, h4⟩ := h
  have hc' := carB_iff.1 h4.2.1
  refine ⟨⟨by omega, by omega⟩, ⟨by rw [h0, h1]; rfl, by omega, by omega, by rw [h1, h2, h3]; exact mind_zero⟩, h4⟩
theorem la_da0 (s : L_la) (hI : I_la s) (vB : Bool) (vB2 : Bool) (vA : Int) (vi : Int) (vi2 : Int) (vA2 : Int) (vO : Int) (vO2 : Int) (vP : List Int) (vG : Int) (hvB : drB s.c_Kind s.c_Phases s.c_Max s.c_Need s.c_Delay s.s_Pilots s.s_Ticks s.s_Got s.phases ((gi s.l s.i)) = vB) (hvB2 : drB s.good_Kind s.good_Phases s.good_Max s.good_Need s.good_Delay s.s_Pilots s.s_Ticks s.s_Got s.phases ((gi s.l s.i)) = vB2) (hvA : dA s.c_Kind s.c_Phases s.c_Max s.c_Need s.c_Delay s.s_Pilots s.s_Ticks s.s_Got s.phases ((gi s.l s.i)) = vA) (hvi : gi s.allowed (IntKind.i64.wrap (s.i - s.c_Delay)) = vi) (hvi2 : gi s.l s.i = vi2) (hvA2 : dA s.good_Kind s.good_Phases s.good_Max s.good_Need s.good_Delay s.s_Pilots s.s_Ticks s.s_Got s.phases ((gi s.l s.i)) = vA2) (hvO : dO s.good_Kind s.good_Phases s.good_Max s.good_Need s.good_Delay s.s_Pilots s.s_Ticks s.s_Got s.phases ((gi s.l s.i)) = vO) (hvO2 : dO s.c_Kind s.c_Phases s.c_Max s.c_Need s.c_Delay s.s_Pilots s.s_Ticks s.s_Got s.phases ((gi s.l s.i)) = vO2) (hvP : dP s.s_Pilots ((gi s.l s.i)) = vP) (hvG : dG s.c_Kind s.c_Phases s.c_Max s.c_Need s.c_Delay s.s_Pilots s.s_Ticks s.s_Got s.phases ((gi s.l s.i)) = vG) : allR (fun s' => I_la s' ∧ mu_la s' < mu_la s) (fun x s' => Q_la x s s') (fa_la s vB vB2 vA vi vi2 vA2 vO vO2 vP vG) := by
  unfold fa_la
  obtain ⟨⟨hi0, hi1⟩, ⟨hpl, hg, ht, hm⟩, hk, hc, hgd, hu, hl, hn, hn2⟩ := hI
  have hc' := carB_iff.1 hc
  refine allR_ite (fun c1 => ?_) (fun c1 => ?_)
  · refine allR_ite (fun c2 => ?_) (fun c2 => ?_)
    · refine allR_ite (fun c3 => ?_) (fun c3 => ?_)
      · exact absurd c3 (by decide)
      · refine allR_ite (fun c4 => ?_) (fun c4 => ?_)
        · refine allR_ite (fun c5 => ?_) (fun c5 => ?_)
          · refine allR_ite (fun c6 => ?_) (fun c6 => ?_)
            · have c1 : s.i < s.n := by simpa using c1
              rw [c2] at hvB
              obtain ⟨q1, q2, q3, q4⟩ := late_draw2 hk hgd hvB
              exfalso
              rw [hvA, hvi2] at q2
              rw [hvA, hvA2, hvO, hvO2] at q4
              rw [hvA] at q3
              have ha := ago_bound (dl := s.c_Delay) (mindB_iff.1 hm).2.2.2.2.2
              have hll : s.allowed.length = s.l.length := by rw [hl]
              have c4 : s.c_Delay ≤ s.i := by simpa using c4
              rw [wrapS (x := s.i - s.c_Delay) (by omega) (by omega)] at hvi
              simp at c6
              by_cases hd : s.c_Delay = 0
              · obtain ⟨p1, p2⟩ := q4 hd
                simp [hd, p1, p2] at c6
                rw [hd, Int.sub_zero, ← hl, hvi2] at hvi
                split at c6 <;> omega
              · have := q3 hd
                rw [hpl, late_ago (by omega) (by omega) (by omega)] at this ha
                rw [if_pos (by omega), show ((s.i.toNat : Nat) : Int) - s.c_Delay = s.i - s.c_Delay by omega, hvi] at this ha
                simp [hd] at c6
                split at c6 <;> omega
            · have c1 : s.i < s.n := by simpa using c1
              rw [c2] at hvB
              obtain ⟨n1, n2, n3, n4, n5, n6⟩ := mind_next hvB hg
              rw [wrapS (x := s.i + 1) (by omega) (by omega), ← hvP, ← hvG]
              refine ⟨⟨⟨by simp only; omega, by simp only; omega⟩, ⟨?_, n2, by simp only; omega, n1⟩, hk, hc, hgd, hu, hl, hn, hn2⟩, by simp only [mu_la]; omega⟩
              simp only
              rw [hpl, hl]
              have := late_next (al := s.allowed) (i := s.i.toNat) (by rw [← hl]; omega)
              rw [show ((s.i.toNat : Nat) : Int) = s.i by omega] at this
              rw [this, show (s.i + 1).toNat = s.i.toNat + 1 by omega]
          · refine allR_ite (fun c6 => ?_) (fun c6 => ?_)
            · have c1 : s.i < s.n := by simpa using c1
              rw [c2] at hvB
              obtain ⟨q1, q2, q3, q4⟩ := late_draw2 hk hgd hvB
              rw [← hvB2, q1] at c5
              cases c5
            · have c1 : s.i < s.n := by simpa using c1
              rw [c2] at hvB
              obtain ⟨q1, q2, q3, q4⟩ := late_draw2 hk hgd hvB
              rw [← hvB2, q1] at c5
              cases c5
        · refine allR_ite (fun c5 => ?_) (fun c5 => ?_)
          · refine allR_ite (fun c6 => ?_) (fun c6 => ?_)
            · have c1 : s.i < s.n := by simpa using c1
              rw [c2] at hvB
              obtain ⟨q1, q2, q3, q4⟩ := late_draw2 hk hgd hvB
              exfalso
              rw [hvA, hvi2] at q2
              rw [hvA, hvA2, hvO, hvO2] at q4
              rw [hvA] at q3
              have ha := ago_bound (dl := s.c_Delay) (mindB_iff.1 hm).2.2.2.2.2
              have hll : s.allowed.length = s.l.length := by rw [hl]
              have c4 : s.i < s.c_Delay := by simpa using c4
              
              simp at c6
              by_cases hd : s.c_Delay = 0
              · obtain ⟨p1, p2⟩ := q4 hd
                simp [hd, p1, p2] at c6
                omega
              · have := q3 hd
                rw [hpl, late_ago (by omega) (by omega) (by omega)] at this ha
                rw [if_neg (by omega)] at this ha
                simp [hd] at c6
                split at c6 <;> omega
            · have c1 : s.i < s.n := by simpa using c1
              rw [c2] at hvB
              obtain ⟨n1, n2, n3, n4, n5, n6⟩ := mind_next hvB hg
              rw [wrapS (x := s.i + 1) (by omega) (by omega), ← hvP, ← hvG]
              refine ⟨⟨⟨by simp only; omega, by simp only; omega⟩, ⟨?_, n2, by simp only; omega, n1⟩, hk, hc, hgd, hu, hl, hn, hn2⟩, by simp only [mu_la]; omega⟩
              simp only
              rw [hpl, hl]
              have := late_next (al := s.allowed) (i := s.i.toNat) (by rw [← hl]; omega)
              rw [show ((s.i.toNat : Nat) : Int) = s.i by omega] at this
              rw [this, show (s.i + 1).toNat = s.i.toNat + 1 by omega]
          · refine allR_ite (fun c6 => ?_) (fun c6 => ?_)
            · have c1 : s.i < s.n := by simpa using c1
              rw [c2] at hvB
              obtain ⟨q1, q2, q3, q4⟩ := late_draw2 hk hgd hvB
              rw [← hvB2, q1] at c5
              cases c5
            · have c1 : s.i < s.n := by simpa using c1
              rw [c2] at hvB
              obtain ⟨q1, q2, q3, q4⟩ := late_draw2 hk hgd hvB
              rw [← hvB2, q1] at c5
              cases c5
    · refine allR_ite (fun c3 => ?_) (fun c3 => ?_)
      · exact .inl ⟨rfl, hu⟩
      · refine allR_ite (fun c4 => ?_) (fun c4 => ?_)
        · refine allR_ite (fun c5 => ?_) (fun c5 => ?_)
          · refine allR_ite (fun c6 => ?_) (fun c6 => ?_)
            · exact absurd c3 (by decide)
            · exact absurd c3 (by decide)
          · refine allR_ite (fun c6 => ?_) (fun c6 => ?_)
            · exact absurd c3 (by decide)
            · exact absurd c3 (by decide)
        · refine allR_ite (fun c5 => ?_) (fun c5 => ?_)
          · refine allR_ite (fun c6 => ?_) (fun c6 => ?_)
            · exact absurd c3 (by decide)
            · exact absurd c3 (by decide)
          · refine allR_ite (fun c6 => ?_) (fun c6 => ?_)
            · exact absurd c3 (by decide)
            · exact absurd c3 (by decide)
  · exact .inr ⟨rfl, hu⟩
theorem la_da (s : L_la) (hI : I_la s) : allR (fun s' => I_la s' ∧ mu_la s' < mu_la s) (fun x s' => Q_la x s s') (f_la s) := la_da0 s hI _ _ _ _ _ _ _ _ _ _ rfl rfl rfl rfl rfl rfl rfl rfl rfl rfl
theorem la_d : ∀ s s', I_la s → f_la s = .next s' → I_la s' ∧ mu_la s' < mu_la s := fun s s' hI h => allR_next (la_da s hI) h
def sel_la : List LV → List Blk → T L_la
  | [.v (.int .i64 phases), .xl (.int .i64) allowed, .own 0 0, .v (.bool r), .v (.bool up_), .own 1 0, .own 2 0, .xl (.int .i64) l, .v (.int .i64 n), .v (.int .i64 i)], [⟨[.v (.int .i64 c_Kind), .v (.int .i64 c_Phases), .v (.int .i64 c_Max), .v (.int .i64 c_Need), .v (.int .i64 c_Delay)], 23, .cl, false⟩, ⟨[.xl (.int .i64) s_Pilots, .v (.int .i64 s_Ticks), .v (.int .i64 s_Got)], 26, .cl, false⟩, ⟨[.v (.int .i64 good_Kind), .v (.int .i64 good_Phases), .v (.int .i64 good_Max), .v (.int .i64 good_Need), .v (.int .i64 good_Delay)], 23, .cl, false⟩] => .req (E_la ⟨phases, allowed, r, up_, l, n, i, c_Kind, c_Phases, c_Max, c_Need, c_Delay, s_Pilots, s_Ticks, s_Got, good_Kind, good_Phases, good_Max, good_Need, good_Delay⟩) (.ok ⟨phases, allowed, r, up_, l, n, i, c_Kind, c_Phases, c_Max, c_Need, c_Delay, s_Pilots, s_Ticks, s_Got, good_Kind, good_Phases, good_Max, good_Need, good_Delay⟩)
  | _, _ => .no
theorem sel_la_ok : ∀ vals blks s, (sel_la vals blks).all (fun x => x = s) → E_la s ∧ vals = A_la s ∧ blks = B_la s := by
  intro vals blks s h
  unfold sel_la at h
  split at h
  · obtain ⟨h1, rfl⟩ := h
    exact ⟨h1, rfl, rfl⟩
  · cases h
def run_la (s : L_la) : L_la := { (runW f_la (mu_la s + 1) s).2 with phases := s.phases, allowed := s.allowed, up_ := s.up_, l := s.l, n := s.n, c_Kind := s.c_Kind, c_Phases := s.c_Phases, c_Max := s.c_Max, c_Need := s.c_Need, c_Delay := s.c_Delay, good_Kind := s.good_Kind, good_Phases := s.good_Phases, good_Max := s.good_Max, good_Need := s.good_Need, good_Delay := s.good_Delay }
theorem run_la_eq (s : L_la) : (runW f_la (mu_la s + 1) s).2 = run_la s := by
  have hk := runW_keep (f := f_la) P_la (fun s s' hf => allR_next (la_ka s _ _ _ _ _ _ _ _ _ _) hf) (fun s x s' hf => allR_stop (la_ka s _ _ _ _ _ _ _ _ _ _) hf) (mu_la s + 1) s
  unfold run_la
  generalize (runW f_la (mu_la s + 1) s).2 = r at *
  cases r
  simp only [P_la, Prod.mk.injEq, true_and] at hk
  simp only [L_la.mk.injEq, hk, and_self]
def exn_la (s : L_la) : Ex := (runW f_la (mu_la s + 1) s).1
def out_la (s : L_la) : T (Ex × List LV × List Blk) := .br (isEx (exn_la s) (.ret)) (.ok (.ret, frameOf 107 [1, 2, 3, 6, 7, 8, 10, 39, 40, 41] (A_la (run_la s)), B_la (run_la s))) (.ok (.exit 0, frameOf 107 [1, 2, 3, 6, 7, 8, 10, 39, 40, 41] (A_la (run_la s)), B_la (run_la s)))
theorem nfl_la (s : L_la) : backT [1, 2, 3, 6, 7, 8, 10, 39, 40, 41] [] (codex Try.prog noGlobs (specsOf [(10, S_head), (11, S_drw), (13, S_plug)]) noK noLoops body_la (frameOf 107 [1, 2, 3, 6, 7, 8, 10, 39, 40, 41] (A_la s)) (B_la s)) = .br (decide (s.i < s.n)) (.req (0 ≤ s.i ∧ s.i < (List.length s.l : Int)) (.br (drB s.c_Kind s.c_Phases s.c_Max s.c_Need s.c_Delay s.s_Pilots s.s_Ticks s.s_Got s.phases ((gi s.l s.i))) (.br ((0 : Int) != 0) (.ok (⟨.ret, 107, [.v (.int .i64 s.phases), .xl (.int .i64) s.allowed, .own 0 0, .v (.bool s.up_), .v (.bool s.up_), .own 1 0, .own 2 0, .xl (.int .i64) s.l, .v (.int .i64 s.n), .v (.int .i64 s.i)], [⟨[.v (.int .i64 s.c_Kind), .v (.int .i64 s.c_Phases), .v (.int .i64 s.c_Max), .v (.int .i64 s.c_Need), .v (.int .i64 s.c_Delay)], 23, .cl, false⟩, ⟨[.xl (.int .i64) s.s_Pilots, .v (.int .i64 s.s_Ticks), .v (.int .i64 s.s_Got)], 26, .cl, false⟩, ⟨[.v (.int .i64 s.good_Kind), .v (.int .i64 s.good_Phases), .v (.int .i64 s.good_Max), .v (.int .i64 s.good_Need), .v (.int .i64 s.good_Delay)], 23, .cl, false⟩], true⟩)) (.br (decide (s.i ≥ s.c_Delay)) (.req (0 ≤ (IntKind.i64.wrap (s.i - s.c_Delay)) ∧ (IntKind.i64.wrap (s.i - s.c_Delay)) < (List.length s.allowed : Int)) (.br (drB s.good_Kind s.good_Phases s.good_Max s.good_Need s.good_Delay s.s_Pilots s.s_Ticks s.s_Got s.phases ((gi s.l s.i))) (.br ((decide ((dA s.c_Kind s.c_Phases s.c_Max s.c_Need s.c_Delay s.s_Pilots s.s_Ticks s.s_Got s.phases ((gi s.l s.i))) > (if ((gi s.allowed (IntKind.i64.wrap (s.i - s.c_Delay)))) < ((gi s.l s.i)) then (gi s.allowed (IntKind.i64.wrap (s.i - s.c_Delay))) else (gi s.l s.i)))) || ((s.c_Delay == 0) && (((0 : Int) != 0) || (((dA s.good_Kind s.good_Phases s.good_Max s.good_Need s.good_Delay s.s_Pilots s.s_Ticks s.s_Got s.phases ((gi s.l s.i))) != (dA s.c_Kind s.c_Phases s.c_Max s.c_Need s.c_Delay s.s_Pilots s.s_Ticks s.s_Got s.phases ((gi s.l s.i)))) || ((dO s.good_Kind s.good_Phases s.good_Max s.good_Need s.good_Delay s.s_Pilots s.s_Ticks s.s_Got s.phases ((gi s.l s.i))) != (dO s.c_Kind s.c_Phases s.c_Max s.c_Need s.c_Delay s.s_Pilots s.s_Ticks s.s_Got s.phases ((gi s.l s.i)))))))) (.ok (⟨.ret, 107, [.v (.int .i64 s.phases), .xl (.int .i64) s.allowed, .own 0 0, .v (.bool false), .v (.bool s.up_), .own 1 0, .own 2 0, .xl (.int .i64) s.l, .v (.int .i64 s.n), .v (.int .i64 s.i)], [⟨[.v (.int .i64 s.c_Kind), .v (.int .i64 s.c_Phases), .v (.int .i64 s.c_Max), .v (.int .i64 s.c_Need), .v (.int .i64 s.c_Delay)], 23, .cl, false⟩, ⟨[.xl (.int .i64) s.s_Pilots, .v (.int .i64 s.s_Ticks), .v (.int .i64 s.s_Got)], 26, .cl, false⟩, ⟨[.v (.int .i64 s.good_Kind), .v (.int .i64 s.good_Phases), .v (.int .i64 s.good_Max), .v (.int .i64 s.good_Need), .v (.int .i64 s.good_Delay)], 23, .cl, false⟩], true⟩)) (.ok (⟨.normal, 107, [.v (.int .i64 s.phases), .xl (.int .i64) s.allowed, .own 0 0, .v (.bool s.r), .v (.bool s.up_), .own 1 0, .own 2 0, .xl (.int .i64) s.l, .v (.int .i64 s.n), .v (.int .i64 (IntKind.i64.wrap (s.i + 1)))], [⟨[.v (.int .i64 s.c_Kind), .v (.int .i64 s.c_Phases), .v (.int .i64 s.c_Max), .v (.int .i64 s.c_Need), .v (.int .i64 s.c_Delay)], 23, .cl, false⟩, ⟨[.xl (.int .i64) (dP s.s_Pilots ((gi s.l s.i))), .v (.int .i64 (s.s_Ticks + 1)), .v (.int .i64 (dG s.c_Kind s.c_Phases s.c_Max s.c_Need s.c_Delay s.s_Pilots s.s_Ticks s.s_Got s.phases ((gi s.l s.i))))], 26, .cl, false⟩, ⟨[.v (.int .i64 s.good_Kind), .v (.int .i64 s.good_Phases), .v (.int .i64 s.good_Max), .v (.int .i64 s.good_Need), .v (.int .i64 s.good_Delay)], 23, .cl, false⟩], true⟩))) (.br ((decide ((dA s.c_Kind s.c_Phases s.c_Max s.c_Need s.c_Delay s.s_Pilots s.s_Ticks s.s_Got s.phases ((gi s.l s.i))) > (if ((gi s.allowed (IntKind.i64.wrap (s.i - s.c_Delay)))) < ((gi s.l s.i)) then (gi s.allowed (IntKind.i64.wrap (s.i - s.c_Delay))) else (gi s.l s.i)))) || ((s.c_Delay == 0) && (((1 : Int) != 0) || (((0 : Int) != (dA s.c_Kind s.c_Phases s.c_Max s.c_Need s.c_Delay s.s_Pilots s.s_Ticks s.s_Got s.phases ((gi s.l s.i)))) || ((0 : Int) != (dO s.c_Kind s.c_Phases s.c_Max s.c_Need s.c_Delay s.s_Pilots s.s_Ticks s.s_Got s.phases ((gi s.l s.i)))))))) (.ok (⟨.ret, 107, [.v (.int .i64 s.phases), .xl (.int .i64) s.allowed, .own 0 0, .v (.bool false), .v (.bool s.up_), .own 1 0, .own 2 0, .xl (.int .i64) s.l, .v (.int .i64 s.n), .v (.int .i64 s.i)], [⟨[.v (.int .i64 s.c_Kind), .v (.int .i64 s.c_Phases), .v (.int .i64 s.c_Max), .v (.int .i64 s.c_Need), .v (.int .i64 s.c_Delay)], 23, .cl, false⟩, ⟨[.xl (.int .i64) s.s_Pilots, .v (.int .i64 s.s_Ticks), .v (.int .i64 s.s_Got)], 26, .cl, false⟩, ⟨[.v (.int .i64 s.good_Kind), .v (.int .i64 s.good_Phases), .v (.int .i64 s.good_Max), .v (.int .i64 s.good_Need), .v (.int .i64 s.good_Delay)], 23, .cl, false⟩], true⟩)) (.ok (⟨.normal, 107, [.v (.int .i64 s.phases), .xl (.int .i64) s.allowed, .own 0 0, .v (.bool s.r), .v (.bool s.up_), .own 1 0, .own 2 0, .xl (.int .i64) s.l, .v (.int .i64 s.n), .v (.int .i64 (IntKind.i64.wrap (s.i + 1)))], [⟨[.v (.int .i64 s.c_Kind), .v (.int .i64 s.c_Phases), .v (.int .i64 s.c_Max), .v (.int .i64 s.c_Need), .v (.int .i64 s.c_Delay)], 23, .cl, false⟩, ⟨[.xl (.int .i64) (dP s.s_Pilots ((gi s.l s.i))), .v (.int .i64 (s.s_Ticks + 1)), .v (.int .i64 (dG s.c_Kind s.c_Phases s.c_Max s.c_Need s.c_Delay s.s_Pilots s.s_Ticks s.s_Got s.phases ((gi s.l s.i))))], 26, .cl, false⟩, ⟨[.v (.int .i64 s.good_Kind), .v (.int .i64 s.good_Phases), .v (.int .i64 s.good_Max), .v (.int .i64 s.good_Need), .v (.int .i64 s.good_Delay)], 23, .cl, false⟩], true⟩))))) (.br (drB s.good_Kind s.good_Phases s.good_Max s.good_Need s.good_Delay s.s_Pilots s.s_Ticks s.s_Got s.phases ((gi s.l s.i))) (.br ((decide ((dA s.c_Kind s.c_Phases s.c_Max s.c_Need s.c_Delay s.s_Pilots s.s_Ticks s.s_Got s.phases ((gi s.l s.i))) > (if (0 : Int) < ((gi s.l s.i)) then 0 else (gi s.l s.i)))) || ((s.c_Delay == 0) && (((0 : Int) != 0) || (((dA s.good_Kind s.good_Phases s.good_Max s.good_Need s.good_Delay s.s_Pilots s.s_Ticks s.s_Got s.phases ((gi s.l s.i))) != (dA s.c_Kind s.c_Phases s.c_Max s.c_Need s.c_Delay s.s_Pilots s.s_Ticks s.s_Got s.phases ((gi s.l s.i)))) || ((dO s.good_Kind s.good_Phases s.good_Max s.good_Need s.good_Delay s.s_Pilots s.s_Ticks s.s_Got s.phases ((gi s.l s.i))) != (dO s.c_Kind s.c_Phases s.c_Max s.c_Need s.c_Delay s.s_Pilots s.s_Ticks s.s_Got s.phases ((gi s.l s.i)))))))) (.ok (⟨.ret, 107, [.v (.int .i64 s.phases), .xl (.int .i64) s.allowed, .own 0 0, .v (.bool false), .v (.bool s.up_), .own 1 0, .own 2 0, .xl (.int .i64) s.l, .v (.int .i64 s.n), .v (.int .i64 s.i)], [⟨[.v (.int .i64 s.c_Kind), .v (.int .i64 s.c_Phases), .v (.int .i64 s.c_Max), .v (.int .i64 s.c_Need), .v (.int .i64 s.c_Delay)], 23, .cl, false⟩, ⟨[.xl (.int .i64) s.s_Pilots, .v (.int .i64 s.s_Ticks), .v (.int .i64 s.s_Got)], 26, .cl, false⟩, ⟨[.v (.int .i64 s.good_Kind), .v (.int .i64 s.good_Phases), .v (.int .i64 s.good_Max), .v (.int .i64 s.good_Need), .v (.int .i64 s.good_Delay)], 23, .cl, false⟩], true⟩)) (.ok (⟨.normal, 107, [.v (.int .i64 s.phases), .xl (.int .i64) s.allowed, .own 0 0, .v (.bool s.r), .v (.bool s.up_), .own 1 0, .own 2 0, .xl (.int .i64) s.l, .v (.int .i64 s.n), .v (.int .i64 (IntKind.i64.wrap (s.i + 1)))], [⟨[.v (.int .i64 s.c_Kind), .v (.int .i64 s.c_Phases), .v (.int .i64 s.c_Max), .v (.int .i64 s.c_Need), .v (.int .i64 s.c_Delay)], 23, .cl, false⟩, ⟨[.xl (.int .i64) (dP s.s_Pilots ((gi s.l s.i))), .v (.int .i64 (s.s_Ticks + 1)), .v (.int .i64 (dG s.c_Kind s.c_Phases s.c_Max s.c_Need s.c_Delay s.s_Pilots s.s_Ticks s.s_Got s.phases ((gi s.l s.i))))], 26, .cl, false⟩, ⟨[.v (.int .i64 s.good_Kind), .v (.int .i64 s.good_Phases), .v (.int .i64 s.good_Max), .v (.int .i64 s.good_Need), .v (.int .i64 s.good_Delay)], 23, .cl, false⟩], true⟩))) (.br ((decide ((dA s.c_Kind s.c_Phases s.c_Max s.c_Need s.c_Delay s.s_Pilots s.s_Ticks s.s_Got s.phases ((gi s.l s.i))) > (if (0 : Int) < ((gi s.l s.i)) then 0 else (gi s.l s.i)))) || ((s.c_Delay == 0) && (((1 : Int) != 0) || (((0 : Int) != (dA s.c_Kind s.c_Phases s.c_Max s.c_Need s.c_Delay s.s_Pilots s.s_Ticks s.s_Got s.phases ((gi s.l s.i)))) || ((0 : Int) != (dO s.c_Kind s.c_Phases s.c_Max s.c_Need s.c_Delay s.s_Pilots s.s_Ticks s.s_Got s.phases ((gi s.l s.i)))))))) (.ok (⟨.ret, 107, [.v (.int .i64 s.phases), .xl (.int .i64) s.allowed, .own 0 0, .v (.bool false), .v (.bool s.up_), .own 1 0, .own 2 0, .xl (.int .i64) s.l, .v (.int .i64 s.n), .v (.int .i64 s.i)], [⟨[.v (.int .i64 s.c_Kind), .v (.int .i64 s.c_Phases), .v (.int .i64 s.c_Max), .v (.int .i64 s.c_Need), .v (.int .i64 s.c_Delay)], 23, .cl, false⟩, ⟨[.xl (.int .i64) s.s_Pilots, .v (.int .i64 s.s_Ticks), .v (.int .i64 s.s_Got)], 26, .cl, false⟩, ⟨[.v (.int .i64 s.good_Kind), .v (.int .i64 s.good_Phases), .v (.int .i64 s.good_Max), .v (.int .i64 s.good_Need), .v (.int .i64 s.good_Delay)], 23, .cl, false⟩], true⟩)) (.ok (⟨.normal, 107, [.v (.int .i64 s.phases), .xl (.int .i64) s.allowed, .own 0 0, .v (.bool s.r), .v (.bool s.up_), .own 1 0, .own 2 0, .xl (.int .i64) s.l, .v (.int .i64 s.n), .v (.int .i64 (IntKind.i64.wrap (s.i + 1)))], [⟨[.v (.int .i64 s.c_Kind), .v (.int .i64 s.c_Phases), .v (.int .i64 s.c_Max), .v (.int .i64 s.c_Need), .v (.int .i64 s.c_Delay)], 23, .cl, false⟩, ⟨[.xl (.int .i64) (dP s.s_Pilots ((gi s.l s.i))), .v (.int .i64 (s.s_Ticks + 1)), .v (.int .i64 (dG s.c_Kind s.c_Phases s.c_Max s.c_Need s.c_Delay s.s_Pilots s.s_Ticks s.s_Got s.phases ((gi s.l s.i))))], 26, .cl, false⟩, ⟨[.v (.int .i64 s.good_Kind), .v (.int .i64 s.good_Phases), .v (.int .i64 s.good_Max), .v (.int .i64 s.good_Need), .v (.int .i64 s.good_Delay)], 23, .cl, false⟩], true⟩)))))) (.br ((1 : Int) != 0) (.ok (⟨.ret, 107, [.v (.int .i64 s.phases), .xl (.int .i64) s.allowed, .own 0 0, .v (.bool s.up_), .v (.bool s.up_), .own 1 0, .own 2 0, .xl (.int .i64) s.l, .v (.int .i64 s.n), .v (.int .i64 s.i)], [⟨[.v (.int .i64 s.c_Kind), .v (.int .i64 s.c_Phases), .v (.int .i64 s.c_Max), .v (.int .i64 s.c_Need), .v (.int .i64 s.c_Delay)], 23, .cl, false⟩, ⟨[.xl (.int .i64) s.s_Pilots, .v (.int .i64 s.s_Ticks), .v (.int .i64 s.s_Got)], 26, .cl, false⟩, ⟨[.v (.int .i64 s.good_Kind), .v (.int .i64 s.good_Phases), .v (.int .i64 s.good_Max), .v (.int .i64 s.good_Need), .v (.int .i64 s.good_Delay)], 23, .cl, false⟩], true⟩)) (.br (decide (s.i ≥ s.c_Delay)) (.req (0 ≤ (IntKind.i64.wrap (s.i - s.c_Delay)) ∧ (IntKind.i64.wrap (s.i - s.c_Delay)) < (List.length s.allowed : Int)) (.br (drB s.good_Kind s.good_Phases s.good_Max s.good_Need s.good_Delay s.s_Pilots s.s_Ticks s.s_Got s.phases ((gi s.l s.i))) (.br ((decide ((0 : Int) > (if ((gi s.allowed (IntKind.i64.wrap (s.i - s.c_Delay)))) < ((gi s.l s.i)) then (gi s.allowed (IntKind.i64.wrap (s.i - s.c_Delay))) else (gi s.l s.i)))) || ((s.c_Delay == 0) && (((0 : Int) != 0) || (((dA s.good_Kind s.good_Phases s.good_Max s.good_Need s.good_Delay s.s_Pilots s.s_Ticks s.s_Got s.phases ((gi s.l s.i))) != 0) || ((dO s.good_Kind s.good_Phases s.good_Max s.good_Need s.good_Delay s.s_Pilots s.s_Ticks s.s_Got s.phases ((gi s.l s.i))) != 0))))) (.ok (⟨.ret, 107, [.v (.int .i64 s.phases), .xl (.int .i64) s.allowed, .own 0 0, .v (.bool false), .v (.bool s.up_), .own 1 0, .own 2 0, .xl (.int .i64) s.l, .v (.int .i64 s.n), .v (.int .i64 s.i)], [⟨[.v (.int .i64 s.c_Kind), .v (.int .i64 s.c_Phases), .v (.int .i64 s.c_Max), .v (.int .i64 s.c_Need), .v (.int .i64 s.c_Delay)], 23, .cl, false⟩, ⟨[.xl (.int .i64) s.s_Pilots, .v (.int .i64 s.s_Ticks), .v (.int .i64 s.s_Got)], 26, .cl, false⟩, ⟨[.v (.int .i64 s.good_Kind), .v (.int .i64 s.good_Phases), .v (.int .i64 s.good_Max), .v (.int .i64 s.good_Need), .v (.int .i64 s.good_Delay)], 23, .cl, false⟩], true⟩)) (.ok (⟨.normal, 107, [.v (.int .i64 s.phases), .xl (.int .i64) s.allowed, .own 0 0, .v (.bool s.r), .v (.bool s.up_), .own 1 0, .own 2 0, .xl (.int .i64) s.l, .v (.int .i64 s.n), .v (.int .i64 (IntKind.i64.wrap (s.i + 1)))], [⟨[.v (.int .i64 s.c_Kind), .v (.int .i64 s.c_Phases), .v (.int .i64 s.c_Max), .v (.int .i64 s.c_Need), .v (.int .i64 s.c_Delay)], 23, .cl, false⟩, ⟨[.xl (.int .i64) ([] : List Int), .v (.int .i64 0), .v (.int .i64 0)], 26, .cl, false⟩, ⟨[.v (.int .i64 s.good_Kind), .v (.int .i64 s.good_Phases), .v (.int .i64 s.good_Max), .v (.int .i64 s.good_Need), .v (.int .i64 s.good_Delay)], 23, .cl, false⟩], true⟩))) (.br ((decide ((0 : Int) > (if ((gi s.allowed (IntKind.i64.wrap (s.i - s.c_Delay)))) < ((gi s.l s.i)) then (gi s.allowed (IntKind.i64.wrap (s.i - s.c_Delay))) else (gi s.l s.i)))) || ((s.c_Delay == 0) && (((1 : Int) != 0) || (((0 : Int) != 0) || ((0 : Int) != 0))))) (.ok (⟨.ret, 107, [.v (.int .i64 s.phases), .xl (.int .i64) s.allowed, .own 0 0, .v (.bool false), .v (.bool s.up_), .own 1 0, .own 2 0, .xl (.int .i64) s.l, .v (.int .i64 s.n), .v (.int .i64 s.i)], [⟨[.v (.int .i64 s.c_Kind), .v (.int .i64 s.c_Phases), .v (.int .i64 s.c_Max), .v (.int .i64 s.c_Need), .v (.int .i64 s.c_Delay)], 23, .cl, false⟩, ⟨[.xl (.int .i64) s.s_Pilots, .v (.int .i64 s.s_Ticks), .v (.int .i64 s.s_Got)], 26, .cl, false⟩, ⟨[.v (.int .i64 s.good_Kind), .v (.int .i64 s.good_Phases), .v (.int .i64 s.good_Max), .v (.int .i64 s.good_Need), .v (.int .i64 s.good_Delay)], 23, .cl, false⟩], true⟩)) (.ok (⟨.normal, 107, [.v (.int .i64 s.phases), .xl (.int .i64) s.allowed, .own 0 0, .v (.bool s.r), .v (.bool s.up_), .own 1 0, .own 2 0, .xl (.int .i64) s.l, .v (.int .i64 s.n), .v (.int .i64 (IntKind.i64.wrap (s.i + 1)))], [⟨[.v (.int .i64 s.c_Kind), .v (.int .i64 s.c_Phases), .v (.int .i64 s.c_Max), .v (.int .i64 s.c_Need), .v (.int .i64 s.c_Delay)], 23, .cl, false⟩, ⟨[.xl (.int .i64) ([] : List Int), .v (.int .i64 0), .v (.int .i64 0)], 26, .cl, false⟩, ⟨[.v (.int .i64 s.good_Kind), .v (.int .i64 s.good_Phases), .v (.int .i64 s.good_Max), .v (.int .i64 s.good_Need), .v (.int .i64 s.good_Delay)], 23, .cl, false⟩], true⟩))))) (.br (drB s.good_Kind s.good_Phases s.good_Max s.good_Need s.good_Delay s.s_Pilots s.s_Ticks s.s_Got s.phases ((gi s.l s.i))) (.br ((decide ((0 : Int) > (if (0 : Int) < ((gi s.l s.i)) then 0 else (gi s.l s.i)))) || ((s.c_Delay == 0) && (((0 : Int) != 0) || (((dA s.good_Kind s.good_Phases s.good_Max s.good_Need s.good_Delay s.s_Pilots s.s_Ticks s.s_Got s.phases ((gi s.l s.i))) != 0) || ((dO s.good_Kind s.good_Phases s.good_Max s.good_Need s.good_Delay s.s_Pilots s.s_Ticks s.s_Got s.phases ((gi s.l s.i))) != 0))))) (.ok (⟨.ret, 107, [.v (.int .i64 s.phases), .xl (.int .i64) s.allowed, .own 0 0, .v (.bool false), .v (.bool s.up_), .own 1 0, .own 2 0, .xl (.int .i64) s.l, .v (.int .i64 s.n), .v (.int .i64 s.i)], [⟨[.v (.int .i64 s.c_Kind), .v (.int .i64 s.c_Phases), .v (.int .i64 s.c_Max), .v (.int .i64 s.c_Need), .v (.int .i64 s.c_Delay)], 23, .cl, false⟩, ⟨[.xl (.int .i64) s.s_Pilots, .v (.int .i64 s.s_Ticks), .v (.int .i64 s.s_Got)], 26, .cl, false⟩, ⟨[.v (.int .i64 s.good_Kind), .v (.int .i64 s.good_Phases), .v (.int .i64 s.good_Max), .v (.int .i64 s.good_Need), .v (.int .i64 s.good_Delay)], 23, .cl, false⟩], true⟩)) (.ok (⟨.normal, 107, [.v (.int .i64 s.phases), .xl (.int .i64) s.allowed, .own 0 0, .v (.bool s.r), .v (.bool s.up_), .own 1 0, .own 2 0, .xl (.int .i64) s.l, .v (.int .i64 s.n), .v (.int .i64 (IntKind.i64.wrap (s.i + 1)))], [⟨[.v (.int .i64 s.c_Kind), .v (.int .i64 s.c_Phases), .v (.int .i64 s.c_Max), .v (.int .i64 s.c_Need), .v (.int .i64 s.c_Delay)], 23, .cl, false⟩, ⟨[.xl (.int .i64) ([] : List Int), .v (.int .i64 0), .v (.int .i64 0)], 26, .cl, false⟩, ⟨[.v (.int .i64 s.good_Kind), .v (.int .i64 s.good_Phases), .v (.int .i64 s.good_Max), .v (.int .i64 s.good_Need), .v (.int .i64 s.good_Delay)], 23, .cl, false⟩], true⟩))) (.br ((decide ((0 : Int) > (if (0 : Int) < ((gi s.l s.i)) then 0 else (gi s.l s.i)))) || ((s.c_Delay == 0) && (((1 : Int) != 0) || (((0 : Int) != 0) || ((0 : Int) != 0))))) (.ok (⟨.ret, 107, [.v (.int .i64 s.phases), .xl (.int .i64) s.allowed, .own 0 0, .v (.bool false), .v (.bool s.up_), .own 1 0, .own 2 0, .xl (.int .i64) s.l, .v (.int .i64 s.n), .v (.int .i64 s.i)], [⟨[.v (.int .i64 s.c_Kind), .v (.int .i64 s.c_Phases), .v (.int .i64 s.c_Max), .v (.int .i64 s.c_Need), .v (.int .i64 s.c_Delay)], 23, .cl, false⟩, ⟨[.xl (.int .i64) s.s_Pilots, .v (.int .i64 s.s_Ticks), .v (.int .i64 s.s_Got)], 26, .cl, false⟩, ⟨[.v (.int .i64 s.good_Kind), .v (.int .i64 s.good_Phases), .v (.int .i64 s.good_Max), .v (.int .i64 s.good_Need), .v (.int .i64 s.good_Delay)], 23, .cl, false⟩], true⟩)) (.ok (⟨.normal, 107, [.v (.int .i64 s.phases), .xl (.int .i64) s.allowed, .own 0 0, .v (.bool s.r), .v (.bool s.up_), .own 1 0, .own 2 0, .xl (.int .i64) s.l, .v (.int .i64 s.n), .v (.int .i64 (IntKind.i64.wrap (s.i + 1)))], [⟨[.v (.int .i64 s.c_Kind), .v (.int .i64 s.c_Phases), .v (.int .i64 s.c_Max), .v (.int .i64 s.c_Need), .v (.int .i64 s.c_Delay)], 23, .cl, false⟩, ⟨[.xl (.int .i64) ([] : List Int), .v (.int .i64 0), .v (.int .i64 0)], 26, .cl, false⟩, ⟨[.v (.int .i64 s.good_Kind), .v (.int .i64 s.good_Phases), .v (.int .i64 s.good_Max), .v (.int .i64 s.good_Need), .v (.int .i64 s.good_Delay)], 23, .cl, false⟩], true⟩)))))))) (.ok (⟨.exit 0, 107, [.v (.int .i64 s.phases), .xl (.int .i64) s.allowed, .own 0 0, .v (.bool s.r), .v (.bool s.up_), .own 1 0, .own 2 0, .xl (.int .i64) s.l, .v (.int .i64 s.n), .v (.int .i64 s.i)], [⟨[.v (.int .i64 s.c_Kind), .v (.int .i64 s.c_Phases), .v (.int .i64 s.c_Max), .v (.int .i64 s.c_Need), .v (.int .i64 s.c_Delay)], 23, .cl, false⟩, ⟨[.xl (.int .i64) s.s_Pilots, .v (.int .i64 s.s_Ticks), .v (.int .i64 s.s_Got)], 26, .cl, false⟩, ⟨[.v (.int .i64 s.good_Kind), .v (.int .i64 s.good_Phases), .v (.int .i64 s.good_Max), .v (.int .i64 s.good_Need), .v (.int .i64 s.good_Delay)], 23, .cl, false⟩], true⟩)) := by kernel_rfl
theorem stp_la (s : L_la) (hI : I_la s) : AllT (fun v => v = rdV 107 A_la B_la (f_la s)) (backT [1, 2, 3, 6, 7, 8, 10, 39, 40, 41] [] (codex Try.prog noGlobs (specsOf [(10, S_head), (11, S_drw), (13, S_plug)]) noK noLoops body_la (frameOf 107 [1, 2, 3, 6, 7, 8, 10, 39, 40, 41] (A_la s)) (B_la s))) := by
  constructor
  rw [nfl_la]
  unfold f_la fa_la
  exact
    stp_br (fun c1 =>
      ⟨by (obtain ⟨⟨hi0, hi1⟩, ⟨hpl, hg, ht, hm⟩, hk, hc, hgd, hu, hl, hn, hn2⟩ := hI; have hc' := carB_iff.1 hc; (try simp only [decide_eq_true_eq] at *); (try rw [hl] at *); (try rw [wrapS (x := s.i - s.c_Delay) (by omega) (by omega)]); omega),
        stp_br (fun c2 =>
          stp_br (fun c3 =>
            rfl) (fun c3 =>
            stp_br (fun c4 =>
              ⟨by (obtain ⟨⟨hi0, hi1⟩, ⟨hpl, hg, ht, hm⟩, hk, hc, hgd, hu, hl, hn, hn2⟩ := hI; have hc' := carB_iff.1 hc; (try simp only [decide_eq_true_eq] at *); (try rw [hl] at *); (try rw [wrapS (x := s.i - s.c_Delay) (by omega) (by omega)]); omega),
                stp_br (fun c5 =>
                  stp_br (fun c6 =>
                    rfl) (fun c6 =>
                    rfl)) (fun c5 =>
                  stp_br (fun c7 =>
                    rfl) (fun c7 =>
                    rfl))⟩) (fun c4 =>
              stp_br (fun c8 =>
                stp_br (fun c9 =>
                  rfl) (fun c9 =>
                  rfl)) (fun c8 =>
                stp_br (fun c10 =>
                  rfl) (fun c10 =>
                  rfl))))) (fun c2 =>
          stp_br (fun c11 =>
            rfl) (fun c11 =>
            stp_br (fun c12 =>
              ⟨by (obtain ⟨⟨hi0, hi1⟩, ⟨hpl, hg, ht, hm⟩, hk, hc, hgd, hu, hl, hn, hn2⟩ := hI; have hc' := carB_iff.1 hc; (try simp only [decide_eq_true_eq] at *); (try rw [hl] at *); (try rw [wrapS (x := s.i - s.c_Delay) (by omega) (by omega)]); omega),
                stp_br (fun c13 =>
                  stp_br (fun c14 =>
                    rfl) (fun c14 =>
                    rfl)) (fun c13 =>
                  stp_br (fun c15 =>
                    rfl) (fun c15 =>
                    rfl))⟩) (fun c12 =>
              stp_br (fun c16 =>
                stp_br (fun c17 =>
                  rfl) (fun c17 =>
                  rfl)) (fun c16 =>
                stp_br (fun c18 =>
                  rfl) (fun c18 =>
                  rfl)))))⟩) (fun c1 =>
      rfl)
theorem la_end (s : L_la) (hE : E_la s) : ∃ s', I_la s' ∧ f_la s' = .stop (exn_la s) (run_la s) := by rw [← run_la_eq]; exact runW_stop la_d (mu_la s + 1) s (la_E s hE) (Nat.lt_succ_self _)
theorem snd_la : Sound Try.prog noGlobs (.loop body_la) (loopT 107 [1, 2, 3, 6, 7, 8, 10, 39, 40, 41] [] sel_la out_la) :=
  loop_view 107 [1, 2, 3, 6, 7, 8, 10, 39, 40, 41] [] A_la B_la I_la E_la mu_la f_la sel_la out_la (code_sound (Γ := specsOf [(10, S_head), (11, S_drw), (13, S_plug)]) (K := noK) (L := noLoops) (specs_ok (l := [(10, S_head), (11, S_drw), (13, S_plug)]) ⟨v_head, v_drw, v_plug, trivial⟩) noK_sound body_la (fun b hb => by rw [show loopsIn body_la = [] by kernel_rfl] at hb; cases hb))
    sel_la_ok la_E la_d (fun s x s' hf => by have := la_ex s x s' hf; intro h0; subst h0; simp at this) stp_la (fun s hE => by
      obtain ⟨s', _, h2⟩ := la_end s hE
      have h3 := la_ex _ _ _ h2
      have h4 : (runW f_la (mu_la s + 1) s).1 = exn_la s := rfl
      rw [h4, run_la_eq]
      unfold out_la
      generalize exn_la s = e at h3
      rcases h3 with h3 | h3 <;> subst h3 <;> simp [T.all, isEx])
theorem la_fin (s : L_la) (hE : E_la s) : ∃ s', I_la s' ∧ Q_la (exn_la s) s' (run_la s) := by
  obtain ⟨s', hI, hf⟩ := la_end s hE
  exact ⟨s', hI, allR_stop (la_da s' hI) hf⟩
def S0_l5 : List LV → T LV
  | [.v (.agg ⟨[.int .i64 k, .int .i64 ph, .int .i64 mx, .int .i64 nd, .int .i64 dl]⟩), .v (.int .i64 p2), .xl (.int .i64) al] => .ok (.v (.bool true))
  | _ => .no
noncomputable def S_l5 : List LV → T LV := upS Try.prog Try.f7.params.toList S0_l5
theorem nf_l5 (k ph mx nd dl p2 : Int) (al : List Int) : funu Try.prog noGlobs (specsOf [(10, S_head), (11, S_drw), (13, S_plug)]) noK (fun i => if i = 9 then loopT 107 [1, 2, 3, 6, 7, 8, 10, 39, 40, 41] [] sel_la out_la else noLoops i) Try.f7 [.v (.agg #[.int .i64 k, .int .i64 ph, .int .i64 mx, .int .i64 nd, .int .i64 dl]), .v (.int .i64 p2), .xl (.int .i64) al] = .br (((plE (1 : Int) ph mx nd dl) != 0) || (decide (((List.length al : Int)) > 100))) (.ok (.v (.bool true))) (.req (E_la (⟨p2, al, false, true, al, ((List.length al : Int)), (0 : Int), (1 : Int), ph, mx, nd, dl, ([] : List Int), (0 : Int), (0 : Int), (0 : Int), ph, mx, nd, dl⟩ : L_la)) (.br (isEx (exn_la (⟨p2, al, false, true, al, ((List.length al : Int)), (0 : Int), (1 : Int), ph, mx, nd, dl, ([] : List Int), (0 : Int), (0 : Int), (0 : Int), ph, mx, nd, dl⟩ : L_la)) (.ret)) (.ok (.v (.bool (((run_la (⟨p2, al, false, true, al, ((List.length al : Int)), (0 : Int), (1 : Int), ph, mx, nd, dl, ([] : List Int), (0 : Int), (0 : Int), (0 : Int), ph, mx, nd, dl⟩ : L_la)).r))))) (.ok (.v (.bool true))))) := by kernel_rfl
theorem v_l5 : Valid Try.prog noGlobs 7 S_l5 := valid_ofu Try.func7 rfl (specs_ok (l := [(10, S_head), (11, S_drw), (13, S_plug)]) ⟨v_head, v_drw, v_plug, trivial⟩) noK_sound (L := (fun i => if i = 9 then loopT 107 [1, 2, 3, 6, 7, 8, 10, 39, 40, 41] [] sel_la out_la else noLoops i)) (fun b hb => by
  rw [show loopsIn _ = [body_la] by kernel_rfl] at hb
  simp only [List.mem_cons, List.not_mem_nil, or_false] at hb
  subst hb
  exact snd_la) (fun args lv h => by
  unfold S0_l5 at h
  split at h
  · simp only [canL, canX]
    rw [nf_l5]
    rename_i k ph mx nd dl p2 al
    obtain rfl := h
    refine ⟨fun _ => rfl, fun hk => ?_⟩
    simp only [Bool.or_eq_false_iff, decide_eq_false_iff_not, bne_eq_false_iff_eq] at hk
    have hc : carB 1 ph mx nd dl = true := by
      have := hk.1
      unfold plE at this
      split at this
      · assumption
      · cases this
    have hE : E_la ⟨p2, al, false, true, al, (List.length al : Int), (0 : Int), (1 : Int), ph, mx, nd, dl, [], (0 : Int), (0 : Int), (0 : Int), ph, mx, nd, dl⟩ := ⟨rfl, rfl, rfl, rfl, rfl, hc, ⟨rfl, rfl, rfl, rfl, rfl⟩, rfl, rfl, rfl, by simp only; omega⟩
    obtain ⟨s', _, hq⟩ := la_fin _ hE
    refine ⟨hE, ?_⟩
    rcases hq with ⟨h1, h2⟩ | ⟨h1, h2⟩
    · rw [h1, h2]; exact ⟨fun _ => rfl, fun h => by cases h⟩
    · rw [h1]; exact ⟨fun h => (by cases h), fun _ => rfl⟩
  · cases h)
end Go.Proofs.Ytakkjfldfghfcaa
