/- Word, plain: a number's word; what is known; lines and parts. -/
import Derived.Test.YthelgjfdkdaijaaDoorWdB
namespace Go.Proofs.YthelgjfdkdaijaaDoor
open Go.RowKit Go.Qe
theorem ofNat_dig {d : Nat} (h : d < 10) : (UInt8.ofNat (48 + d)).toNat = 48 + d := by
  rw [UInt8.toNat_ofNat']; omega
theorem dig_of {d : Nat} (h : d < 10) : dig (UInt8.ofNat (48 + d)) = true := by
  unfold dig; rw [ofNat_dig h]; simp; omega
theorem dd_eq (u : Nat) : Lib.decDigits u = if u < 10 then [UInt8.ofNat (48 + u)] else Lib.decDigits (u / 10) ++ [UInt8.ofNat (48 + u % 10)] := by
  rw [Lib.decDigits]
  split <;> rfl
theorem head_app {a : List UInt8} (b : List UInt8) (h : a ≠ []) : (a ++ b).head? = a.head? := by
  cases a with
  | nil => exact absurd rfl h
  | cons x y => rfl
theorem dd_ne (u : Nat) : Lib.decDigits u ≠ [] := by
  rw [dd_eq]; split <;> simp
theorem dd_all : ∀ (n u : Nat), u ≤ n → (Lib.decDigits u).all dig = true
  | n, u, hn => by
    rw [dd_eq]
    by_cases h : u < 10
    · rw [if_pos h, List.all_cons, dig_of h]; rfl
    · rw [if_neg h, List.all_append]
      cases n with
      | zero => omega
      | succ n => rw [dd_all n (u / 10) (by omega), List.all_cons, dig_of (show u % 10 < 10 by omega)]; rfl
theorem dd_val : ∀ (n u : Nat), u ≤ n → val 0 (Lib.decDigits u) = u
  | n, u, hn => by
    rw [dd_eq]
    by_cases h : u < 10
    · rw [if_pos h, val_cons, ofNat_dig h]; simp [val]
    · rw [if_neg h, val_app, ofNat_dig (by omega)]
      cases n with
      | zero => omega
      | succ n => rw [dd_val n (u / 10) (by omega)]; omega
theorem dd_head : ∀ (n u : Nat), u ≤ n → 0 < u → (Lib.decDigits u).head? ≠ some 48
  | n, u, hn, h0 => by
    rw [dd_eq]
    by_cases h : u < 10
    · rw [if_pos h]
      intro e
      have := congrArg UInt8.toNat (Option.some.inj e)
      rw [ofNat_dig h] at this
      have h48 : (48 : UInt8).toNat = 48 := rfl
      omega
    · rw [if_neg h]
      cases n with
      | zero => omega
      | succ n =>
        have := dd_head n (u / 10) (by omega) (by omega)
        rw [head_app _ (dd_ne _)]
        exact this
theorem head_dig {l : List UInt8} (h : l.all dig = true) : l.head? ≠ some 45 := by
  cases l with
  | nil => simp
  | cons b r =>
    rw [List.all_cons, Bool.and_eq_true] at h
    intro e
    obtain rfl := Option.some.inj e
    rw [dig45] at h; cases h.1
theorem body_dig {l : List UInt8} (h : l.all dig = true) : body l = l := by unfold body; rw [if_neg (head_dig h)]
theorem valI_dig {l : List UInt8} (h : l.all dig = true) : valI l = (val 0 l : Int) := by unfold valI; rw [if_neg (head_dig h), body_dig h]
theorem form_dig {l : List UInt8} (h : l.all dig = true) (h0 : l ≠ []) (h1 : l = [48] ∨ l.head? ≠ some 48) : form l = true := by
  unfold form
  rw [body_dig h]
  rcases h1 with h1 | h1
  · simp [h1]
  · simp [h, h0, h1]
theorem form_neg {l : List UInt8} (h : l.all dig = true) (h0 : l ≠ []) (h1 : l.head? ≠ some 48) : form (45 :: l) = true := by
  unfold form body
  simp [h, h0, h1]
theorem valI_neg (l : List UInt8) : valI (45 :: l) = -(val 0 l : Int) := by
  unfold valI body; simp
theorem itoa_nn {n : Int} (h : 0 ≤ n) : Lib.itoa n = Lib.decDigits n.toNat := by unfold Lib.itoa; rw [if_neg (by omega)]
theorem itoa_ng {n : Int} (h : n < 0) : Lib.itoa n = 45 :: Lib.decDigits n.natAbs := by unfold Lib.itoa; rw [if_pos h]
theorem itoa_form (n : Int) : form (Lib.itoa n) = true := by
  by_cases h : n < 0
  · rw [itoa_ng h]; exact form_neg (dd_all _ _ (Nat.le_refl _)) (dd_ne _) (dd_head _ _ (Nat.le_refl _) (by omega))
  · rw [itoa_nn (by omega)]
    refine form_dig (dd_all _ _ (Nat.le_refl _)) (dd_ne _) ?_
    by_cases h0 : n.toNat = 0
    · left; rw [h0, dd_eq]; rfl
    · right; exact dd_head _ _ (Nat.le_refl _) (by omega)
theorem itoa_valI (n : Int) : valI (Lib.itoa n) = n := by
  by_cases h : n < 0
  · rw [itoa_ng h, valI_neg, dd_val _ _ (Nat.le_refl _)]; omega
  · rw [itoa_nn (by omega), valI_dig (dd_all _ _ (Nat.le_refl _)), dd_val _ _ (Nat.le_refl _)]; omega
theorem dd_of : ∀ (n : Nat) (d : List UInt8), d.length ≤ n → d.all dig = true → d ≠ [] → (d = [48] ∨ d.head? ≠ some 48) → Lib.decDigits (val 0 d) = d
  | n, d, hn, ha, hne, hh => by
    obtain ⟨e, x, rfl⟩ : ∃ e x, d = e ++ [x] := ⟨d.dropLast, d.getLast hne, (List.dropLast_concat_getLast hne).symm⟩
    rw [List.all_append, Bool.and_eq_true] at ha
    have hx : dig x = true := by simpa using ha.2
    have hx2 := of_decide_eq_true hx
    rw [val_app]
    by_cases he : e = []
    · subst he
      rw [show val 0 [] = 0 from rfl, dd_eq, if_pos (by omega)]
      simp only [List.nil_append, List.cons.injEq, and_true]
      apply UInt8.toNat_inj.1
      rw [show 0 * 10 + (x.toNat - 48) = x.toNat - 48 by omega, ofNat_dig (by omega)]; omega
    · have hh' : e.head? ≠ some 48 := by
        rcases hh with hh | hh
        · exfalso
          cases e with
          | nil => exact he rfl
          | cons a b => simp at hh
        · rwa [head_app _ he] at hh
      have hlen : e.length + 1 ≤ n := by simpa using hn
      cases n with
      | zero => omega
      | succ n =>
        have ih := dd_of n e (by omega) ha.1 he (.inr hh')
        have hv : 0 < val 0 e := by
          apply Nat.pos_of_ne_zero
          intro h0
          rw [h0, dd_eq, if_pos (by decide)] at ih
          exact hh' (by rw [← ih]; rfl)
        rw [dd_eq, if_neg (by omega), show (val 0 e * 10 + (x.toNat - 48)) / 10 = val 0 e by omega, ih]
        congr 1
        simp only [List.cons.injEq, and_true]
        apply UInt8.toNat_inj.1
        rw [show (val 0 e * 10 + (x.toNat - 48)) % 10 = x.toNat - 48 by omega, ofNat_dig (by omega)]; omega
theorem itoa_of {l : List UInt8} (h : form l = true) : Lib.itoa (valI l) = l := by
  obtain ⟨h1, h2⟩ := form_digs h
  unfold form at h
  by_cases h45 : l.head? = some 45
  · obtain ⟨d, rfl⟩ : ∃ d, l = 45 :: d := by
      cases l with
      | nil => cases h45
      | cons a b => exact ⟨b, by rw [Option.some.inj h45]⟩
    have hb : body (45 :: d) = d := by unfold body; simp
    rw [hb] at h h1 h2
    have hd : d.head? ≠ some 48 := by simpa [h1, h2] using h
    rw [valI_neg]
    have hdd := dd_of _ d (Nat.le_refl _) h1 h2 (.inr hd)
    have hv : 0 < val 0 d := by
      apply Nat.pos_of_ne_zero
      intro h0
      rw [h0, dd_eq, if_pos (by decide)] at hdd
      exact hd (by rw [← hdd]; rfl)
    rw [itoa_ng (by omega), show (-(val 0 d : Int)).natAbs = val 0 d by omega, hdd]
  · have hb : body l = l := by unfold body; rw [if_neg h45]
    rw [hb] at h h1 h2
    have hd : l = [48] ∨ l.head? ≠ some 48 := by
      by_cases e : l = [48]
      · exact .inl e
      · right; simpa [h1, h2, e] using h
    rw [valI_dig h1, itoa_nn (by omega), show ((val 0 l : Nat) : Int).toNat = val 0 l by omega]
    exact dd_of _ l (Nat.le_refl _) h1 h2 hd
theorem Text_eq {n : Int} (h : fits n) : word_Text n = some (strOf (Lib.itoa n)) := by
  unfold word_Text strconv_FormatInt
  rw [if_pos ⟨rfl, h⟩]; rfl
theorem itoa_len {n : Int} (h : fits n) : (Lib.itoa n).length ≤ 21 := Lib.itoa_length_le n h.1 h.2
theorem Number_text {n : Int} (h : fits n) : word_Number (strOf (Lib.itoa n)) = some (n, 0) := by
  rw [Number_eq _ (by have := itoa_len h; omega)]
  unfold numL
  rw [if_pos (itoa_form n), itoa_valI, if_pos h]
theorem known_true : law02_known = some true := by
  unfold law02_known
  have n1 : numL [45, 48] = (0, 10) := by decide
  have n2 : numL [45, 57, 50, 50, 51, 51, 55, 50, 48, 51, 54, 56, 53, 52, 55, 55, 53, 56, 48, 56] = (-9223372036854775808, 0) := by decide
  have n3 : numL [57, 50, 50, 51, 51, 55, 50, 48, 51, 54, 56, 53, 52, 55, 55, 53, 56, 48, 56] = (0, 11) := by decide
  have c1 : (cutL 32 [97, 32, 32, 98]).map strOf = [(ByteArray.mk #[97]), (ByteArray.mk #[]), (ByteArray.mk #[98])] := rfl
  have t1 : Lib.itoa (-7) = [45, 55] := by rw [itoa_ng (by decide), dd_eq]; rfl
  have l1 : linesL [97, 10] = [[97]] := by decide
  rw [show (ByteArray.mk #[45, 48]) = strOf [45, 48] from rfl, Number_eq _ (by decide), n1, Option.bind_some,
    show (ByteArray.mk #[45, 57, 50, 50, 51, 51, 55, 50, 48, 51, 54, 56, 53, 52, 55, 55, 53, 56, 48, 56]) = strOf [45, 57, 50, 50, 51, 51, 55, 50, 48, 51, 54, 56, 53, 52, 55, 55, 53, 56, 48, 56] from rfl, Number_eq _ (by decide), n2, Option.bind_some,
    show (ByteArray.mk #[57, 50, 50, 51, 51, 55, 50, 48, 51, 54, 56, 53, 52, 55, 55, 53, 56, 48, 56]) = strOf [57, 50, 50, 51, 51, 55, 50, 48, 51, 54, 56, 53, 52, 55, 55, 53, 56, 48, 56] from rfl, Number_eq _ (by decide), n3, Option.bind_some,
    show (ByteArray.mk #[97, 32, 32, 98]) = strOf [97, 32, 32, 98] from rfl, Words_eq _ (by decide), Option.bind_some, c1, Same_eq _ _ (by decide) (by decide), Option.bind_some, decide_eq_true rfl, if_pos rfl,
    if_pos rfl, if_pos rfl, if_pos rfl, if_pos rfl, Text_eq (by decide), Option.bind_some, t1, show (ByteArray.mk #[45, 55]) = strOf [45, 55] from rfl, beq_strOf, decide_eq_true rfl, if_pos rfl,
    show (ByteArray.mk #[97, 10]) = strOf [97, 10] from rfl, Lines_eq _ (by decide), Option.bind_some, l1]
  rfl
end Go.Proofs.YthelgjfdkdaijaaDoor
