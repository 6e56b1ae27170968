/- Word, plain: numbers. -/
import Derived.Test.YthelgjfdkdaijaaDoorWdA
import Derived.Laws.RangeAny
namespace Go.Proofs.YthelgjfdkdaijaaDoor
open Go.RowKit Go.Qe
def dig (b : UInt8) : Bool := decide (48 ≤ b.toNat ∧ b.toNat ≤ 57)
def val (acc : Nat) (l : List UInt8) : Nat := l.foldl (fun a b => a * 10 + (b.toNat - 48)) acc
theorem val_ge : ∀ (l : List UInt8) (acc : Nat), acc ≤ val acc l
  | [], acc => Nat.le_refl _
  | b :: l, acc => by
    have := val_ge l (acc * 10 + (b.toNat - 48))
    show acc ≤ val (acc * 10 + (b.toNat - 48)) l
    omega
theorem val_cons (acc : Nat) (b : UInt8) (l : List UInt8) : val acc (b :: l) = val (acc * 10 + (b.toNat - 48)) l := by simp only [val, List.foldl_cons]
theorem val_app (acc : Nat) (l : List UInt8) (b : UInt8) : val acc (l ++ [b]) = val acc l * 10 + (b.toNat - 48) := by simp [val]
theorem parse_eq : ∀ (l : List UInt8) (acc : Nat), l.all dig = true → acc ≤ 18446744073709551615 →
    Lib.parseUintM 18446744073709551615 acc l = if val acc l ≤ 18446744073709551615 then .ok (val acc l) else .range
  | [], acc, _, h => by rw [if_pos (show val acc [] ≤ _ from h)]; rfl
  | c :: r, acc, hd, h => by
    rw [List.all_cons, Bool.and_eq_true] at hd
    have hc := of_decide_eq_true hd.1
    have hv := val_ge r (acc * 10 + (c.toNat - 48))
    unfold Lib.parseUintM
    rw [if_pos hc, val_cons]
    by_cases h1 : 1844674407370955162 ≤ acc
    · rw [if_pos h1, if_neg (by omega)]
    · rw [if_neg h1]
      by_cases h2 : 18446744073709551615 < acc * 10 + (c.toNat - 48)
      · rw [if_pos h2, if_neg (by omega)]
      · rw [if_neg h2]
        exact parse_eq r _ hd.2 (by omega)
/-- the digits of a word -/
def body (l : List UInt8) : List UInt8 := if l.head? = some 45 then l.tail else l
def form (l : List UInt8) : Bool := decide (l = [48]) || ((body l).all dig && decide (body l ≠ []) && decide ((body l).head? ≠ some 48))
def valI (l : List UInt8) : Int := if l.head? = some 45 then -(val 0 (body l) : Int) else (val 0 (body l) : Int)
def fits (v : Int) : Prop := -9223372036854775808 ≤ v ∧ v ≤ 9223372036854775807
instance (v : Int) : Decidable (fits v) := by unfold fits; infer_instance
theorem dig45 : dig 45 = false := by decide
theorem form_digs {l : List UInt8} (h : form l = true) : (body l).all dig = true ∧ body l ≠ [] := by
  unfold form at h
  rw [Bool.or_eq_true] at h
  rcases h with h | h
  · obtain rfl := of_decide_eq_true h
    exact ⟨by decide, by decide⟩
  · simp only [Bool.and_eq_true, decide_eq_true_eq] at h
    exact ⟨h.1.1, h.1.2⟩
theorem parseI_eq {l : List UInt8} (h : form l = true) : Lib.parseIntB 64 l = if fits (valI l) then .ok (valI l) else .range := by
  obtain ⟨h1, h2⟩ := form_digs h
  cases l with
  | nil => exact absurd rfl h2
  | cons c r =>
    have hcond : (if c.toNat = 43 ∨ c.toNat = 45 then r else c :: r) = body (c :: r) := by
      unfold body
      by_cases h45 : c = 45
      · subst h45; simp
      · have hn : ¬ (List.head? (c :: r) = some 45) := by simpa using h45
        rw [if_neg hn]
        unfold body at h1
        rw [if_neg hn, List.all_cons, Bool.and_eq_true] at h1
        have := of_decide_eq_true h1.1
        rw [if_neg (by omega)]
    have hneg : c.toNat = 45 ↔ List.head? (c :: r) = some 45 := by
      simp only [List.head?_cons, Option.some.injEq]
      exact ⟨fun h => UInt8.toNat_inj.1 h, fun h => by rw [h]; rfl⟩
    have hp : Lib.parseUintB 64 (body (c :: r)) = if val 0 (body (c :: r)) ≤ 18446744073709551615 then .ok (val 0 (body (c :: r))) else .range := by
      unfold Lib.parseUintB
      rw [if_neg h2]
      exact parse_eq _ 0 h1 (by omega)
    unfold Lib.parseIntB
    simp only
    rw [hcond, hp]
    unfold valI fits
    generalize val 0 (body (c :: r)) = v
    by_cases hv : v ≤ 18446744073709551615
    · rw [if_pos hv]
      simp only
      by_cases hs : c.toNat = 45
      · have hs' := hneg.1 hs
        simp only [hs, hs', if_true, not_true_eq_false, false_and, if_false, true_and]
        by_cases h3 : 2 ^ (64 - 1) < v
        · rw [if_pos h3, if_neg (by omega)]
        · rw [if_neg h3, if_pos (by omega)]
      · have hs' : ¬ List.head? (c :: r) = some 45 := fun e => hs (hneg.2 e)
        simp only [hs, hs', if_false, not_false_eq_true, true_and, false_and]
        by_cases h3 : 2 ^ (64 - 1) ≤ v
        · rw [if_pos h3, if_neg (by omega)]
        · rw [if_neg h3, if_pos (by omega)]
    · rw [if_neg hv]
      simp only
      split
      · rw [if_neg (by omega)]
      · rw [if_neg (by omega)]
/-! plain -/
def pl (first at0 : Bool) : List UInt8 → Bool
  | [] => !first
  | b :: r => if b = 45 ∧ at0 = true then pl first false r else if dig b = true ∧ ¬ (b = 48 ∧ first = true) then pl false false r else false
theorem pl_ff : ∀ l : List UInt8, pl false false l = l.all dig
  | [] => rfl
  | b :: r => by
    unfold pl
    rw [if_neg (by simp), pl_ff r, List.all_cons]
    by_cases h : dig b = true
    · rw [if_pos ⟨h, by simp⟩, h, Bool.true_and]
    · rw [if_neg (fun e => h e.1)]; simp [bfalse h]
theorem pl_t (at0 : Bool) (b : UInt8) (r : List UInt8) (h : ¬ (b = 45 ∧ at0 = true)) : pl true at0 (b :: r) = (dig b && decide (b ≠ 48) && r.all dig) := by
  unfold pl
  rw [if_neg h, pl_ff]
  by_cases h1 : dig b = true
  · by_cases h2 : b = 48
    · subst h2; simp
    · simp [h1, h2]
  · simp [bfalse h1]
theorem form_pl (l : List UInt8) : form l = (decide (l = [48]) || pl true true l) := by
  unfold form
  congr 1
  cases l with
  | nil => rfl
  | cons b r =>
    unfold body
    by_cases h : b = 45
    · subst h
      simp only [List.head?_cons, if_true, List.tail_cons]
      show _ = (if (45 : UInt8) = 45 ∧ true = true then pl true false r else _)
      rw [if_pos ⟨rfl, rfl⟩]
      cases r with
      | nil => rfl
      | cons c r =>
        rw [pl_t false c r (by simp)]
        simp [Bool.and_comm, Bool.and_left_comm, Bool.and_assoc]
    · have hn : ¬ (List.head? (b :: r) = some 45) := by simpa using h
      rw [if_neg hn, pl_t true b r (by simp [h])]
      simp [Bool.and_comm, Bool.and_left_comm, Bool.and_assoc]
theorem dig_i {b : UInt8} : dig b = true ↔ ¬ ((b.toNat : Int) < 48) ∧ ¬ (57 < (b.toNat : Int)) := by
  unfold dig; rw [decide_eq_true_eq]; omega
theorem eq_i {b c : UInt8} : (b.toNat : Int) = (c.toNat : Int) ↔ b = c := ⟨fun h => UInt8.toNat_inj.1 (by omega), fun h => by rw [h]⟩
theorem decide_ascii_aux {s : ByteArray} {j : Nat} {b : UInt8} (h : j < s.size) (hg : s[j] = b) (hb : b.toNat < 128) : Utf8.decode s j = (b.toNat, 1) := by
  subst hg
  exact Go.decode_ascii s j h hb
theorem plain_step (pre : List UInt8) (b : UInt8) (r : List UInt8) (first : Bool) (k : (Bool × Nat) → Option Bool) :
    word_plain_b1 (strOf (pre ++ b :: r)) k (first, pre.length) =
      if b = 45 ∧ pre.length = 0 then k (first, pre.length + 1) else if dig b = true ∧ ¬ (b = 48 ∧ first = true) then k (false, pre.length + 1) else some false := by
  have hlt : pre.length < (strOf (pre ++ b :: r)).size := by rw [size_strOf]; simp
  have hget : (strOf (pre ++ b :: r))[pre.length] = b := by
    show (strOf (pre ++ b :: r)).data[pre.length] = b
    simp [strOf]
  unfold word_plain_b1
  dsimp only
  rw [if_pos hlt, lt_eq]
  by_cases h : b.toNat < 128
  · have hd := decide_ascii_aux hlt hget h
    rw [hd]
    dsimp only
    have e48 : ((b.toNat : Int) = 48) ↔ b = 48 := eq_i (c := 48)
    have e45 : ((b.toNat : Int) = 45) ↔ b = 45 := eq_i (c := 45)
    by_cases h45 : b = 45
    · subst h45
      by_cases h0 : pre.length = 0
      · simp [h0]
      · rw [if_pos (by rfl), if_neg (by omega), if_pos (by decide), if_neg (fun e => h0 e.2), if_neg (by simp [dig45])]
    · rw [if_neg (fun e => h45 (e45.1 e)), if_neg (show ¬ (b = 45 ∧ pre.length = 0) from fun e => h45 e.1)]
      by_cases hdg : dig b = true
      · obtain ⟨g1, g2⟩ := dig_i.1 hdg
        rw [if_neg g1, if_neg g2]
        by_cases hz : b = 48
        · rw [if_pos (e48.2 hz)]
          by_cases hf : first = true
          · rw [if_pos hf, if_neg (fun e => e.2 ⟨hz, hf⟩)]
          · rw [if_neg hf, if_pos ⟨hdg, fun e => hf e.2⟩]
        · rw [if_neg (fun e => hz (e48.1 e)), if_pos ⟨hdg, fun e => hz e.1⟩]
      · rw [if_neg (show ¬ (dig b = true ∧ _) from fun e => hdg e.1)]
        have := fun h => hdg (dig_i.2 h)
        by_cases g1 : (b.toNat : Int) < 48
        · rw [if_pos g1]
        · rw [if_neg g1, if_pos (Classical.byContradiction fun g2 => this ⟨g1, g2⟩)]
  · have hh := Go.decode_high (strOf (pre ++ b :: r)) pre.length hlt (by rw [hget]; omega)
    have hb45 : ¬ b = 45 := fun e => by subst e; exact h (by decide)
    have hdg : ¬ dig b = true := fun e => by have := of_decide_eq_true e; omega
    rw [if_neg (by omega), if_neg (by omega), if_pos (by omega), if_neg (fun e => hb45 e.1), if_neg (fun e => hdg e.1)]
theorem plain_loop : ∀ (r pre : List UInt8) (first : Bool) (N : Nat), r.length < N → lp (word_plain_b1 (strOf (pre ++ r))) N (first, pre.length) = some (pl first (decide (pre.length = 0)) r)
  | [], pre, first, N, hN => by
    obtain ⟨N, rfl⟩ : ∃ M, N = M + 1 := ⟨N - 1, by simp at hN; omega⟩
    show word_plain_b1 _ _ _ = _
    generalize lp (word_plain_b1 (strOf (pre ++ []))) N = k
    unfold word_plain_b1
    dsimp only
    rw [if_neg (by rw [size_strOf]; simp)]; rfl
  | b :: r, pre, first, N, hN => by
    obtain ⟨N, rfl⟩ : ∃ M, N = M + 1 := ⟨N - 1, by simp at hN; omega⟩
    have ih := fun f => plain_loop r (pre ++ [b]) f N (by simp at hN; omega)
    simp only [List.append_assoc, List.singleton_append, List.length_append, List.length_singleton] at ih
    show word_plain_b1 _ _ _ = _
    rw [plain_step, ih, ih, decide_eq_false (show ¬ pre.length + 1 = 0 by omega)]
    show _ = some (if b = 45 ∧ decide (pre.length = 0) = true then _ else _)
    by_cases h1 : b = 45 ∧ pre.length = 0
    · rw [if_pos h1, if_pos ⟨h1.1, by simp [h1.2]⟩]
    · have h1' : ¬ (b = 45 ∧ decide (pre.length = 0) = true) := fun e => h1 ⟨e.1, of_decide_eq_true e.2⟩
      rw [if_neg h1, if_neg h1']
      by_cases h2 : dig b = true ∧ ¬ (b = 48 ∧ first = true)
      · rw [if_pos h2, if_pos h2]
      · rw [if_neg h2, if_neg h2]
theorem plain_eq (l : List UInt8) (hb : l.length < 4611686018427387904) : word_plain (strOf l) = some (form l) := by
  unfold word_plain
  rw [show (ByteArray.mk #[48]) = strOf [48] from rfl, beq_strOf, form_pl]
  by_cases h : l = [48]
  · rw [if_pos (by simp [h]), decide_eq_true h]; rfl
  · rw [if_neg (by simp [h]), decide_eq_false h, Bool.false_or]
    exact plain_loop l [] true big (by simpa [big] using hb)
/-- the number of a word; the error -/
def numL (l : List UInt8) : Int × Int := if form l = true then if fits (valI l) then (valI l, 0) else (0, 11) else (0, 10)
theorem Number_eq (l : List UInt8) (hb : l.length < 100000000000) : word_Number (strOf l) = some (numL l) := by
  unfold word_Number numL
  rw [plain_eq l (by omega), Option.bind_some]
  by_cases h : form l = true
  · have hp := parseI_eq h
    rw [if_pos h, if_pos h]
    by_cases hf : fits (valI l)
    · rw [if_pos hf] at hp
      rw [if_neg (by simp [pRng, data_strOf, hp]), if_pos (by rw [size_strOf]; omega), if_pos hf]
      simp [pVal, data_strOf, hp]
    · rw [if_neg hf] at hp
      rw [if_pos (by simp [pRng, data_strOf, hp]), if_pos (by rw [size_strOf]; omega), if_neg hf]
  · rw [if_neg h, if_neg h]
end Go.Proofs.YthelgjfdkdaijaaDoor
