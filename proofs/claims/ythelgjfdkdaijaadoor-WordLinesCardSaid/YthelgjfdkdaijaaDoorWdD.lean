/- Word, plain: WordLines, WordParts, WordDigits, WordCounts, WordBack. -/
import Derived.Test.YthelgjfdkdaijaaDoorWdC
namespace Go.Proofs.YthelgjfdkdaijaaDoor
open Go.RowKit Go.Qe
/-- lines put together, each with its end -/
def joinT (ls : List (List UInt8)) : List UInt8 := (ls.map (· ++ [10])).flatten
theorem joinT_cut (c : UInt8) : ∀ l : List UInt8, ((cutL c l).map (· ++ [c])).flatten = l ++ [c]
  | [] => rfl
  | x :: r => by
    have ih := joinT_cut c r
    rw [cutL_cons]
    obtain ⟨a, b, e⟩ := List.exists_cons_of_ne_nil (cutL_ne c r)
    simp only [e, List.map_cons, List.flatten_cons] at ih ⊢
    by_cases h : x = c
    · rw [if_pos h, List.map_cons, List.flatten_cons, List.map_cons, List.flatten_cons, ih, h]; rfl
    · rw [if_neg h, List.map_cons, List.flatten_cons, List.head_cons, List.tail_cons, List.cons_append, List.cons_append, ih]; rfl
theorem joinT_app (a b : List (List UInt8)) : joinT (a ++ b) = joinT a ++ joinT b := by simp [joinT]
theorem lines_end (l : List UInt8) : (joinT (linesL l) = l) ∨ (joinT (linesL l) = l ++ [10] ∧ ∃ h : l ≠ [], l.getLast h ≠ 10) := by
  have hj : joinT (cutL 10 l) = l ++ [10] := joinT_cut 10 l
  have hs := List.dropLast_concat_getLast (cutL_ne 10 l)
  have hno := cutL_no 10 l _ (List.getLast_mem (cutL_ne 10 l))
  generalize hL : (cutL 10 l).getLast (cutL_ne 10 l) = e at hs hno
  have hj2 : joinT (cutL 10 l).dropLast ++ e = l := by
    rw [← hs, joinT_app] at hj
    have : joinT [e] = e ++ [10] := by simp [joinT]
    rw [this, ← List.append_assoc] at hj
    exact List.append_cancel_right hj
  unfold linesL
  rw [hL]
  by_cases he : e = []
  · left; rw [if_pos he]; rw [he, List.append_nil] at hj2; exact hj2
  · right
    rw [if_neg he]
    refine ⟨hj, ?_⟩
    have hne : l ≠ [] := by rw [← hj2]; simp [he]
    refine ⟨hne, ?_⟩
    have : l.getLast hne = e.getLast he := by
      have hA : ∀ (A : List UInt8) (h : A ++ e ≠ []), (A ++ e).getLast h = e.getLast he := fun A h => List.getLast_append_of_ne_nil h he
      have h3 := hA _ (by simp [he] : joinT (cutL 10 l).dropLast ++ e ≠ [])
      rw [← h3]
      simp only [hj2]
    rw [this]
    intro e10
    exact hno (e10 ▸ List.getLast_mem he)
theorem lines_no (l : List UInt8) : ∀ p ∈ linesL l, (10 : UInt8) ∉ p := fun p hp => by
  unfold linesL at hp
  split at hp
  · exact cutL_no 10 l p (List.dropLast_subset _ hp)
  · exact cutL_no 10 l p hp
theorem lines_len (l : List UInt8) : (linesL l).length ≤ l.length + 1 := by
  have h1 := cutL_len 10 l
  have h2 := List.count_le_length (a := (10 : UInt8)) (l := l)
  unfold linesL
  split
  · rw [List.length_dropLast]; omega
  · omega
theorem joinT_len_take (ls : List (List UInt8)) (k : Nat) : (joinT (ls.take k)).length ≤ (joinT ls).length := by
  conv => rhs; rw [← List.take_append_drop k ls, joinT_app]
  rw [List.length_append]; omega
theorem joinT_succ (ls : List (List UInt8)) (k : Nat) (h : k < ls.length) : joinT (ls.take (k + 1)) = joinT (ls.take k) ++ ls[k] ++ [10] := by
  rw [List.take_succ_eq_append_getElem h, joinT_app, List.append_assoc]; simp [joinT]
theorem bt_ne {l : List UInt8} {c : UInt8} {j : Nat} (h : j < l.length) (hc : c ∉ l) : ¬ bt (strOf l) (j : Int) = (c.toNat : Int) := by
  rw [bt_strOf h]
  intro e
  exact hc ((eq_i.1 e) ▸ List.getElem_mem h)
theorem lines_inner (r2 : List ByteArray) (t : ByteArray) (k : Nat) (p : List UInt8) (K : (ByteArray × Int) → Option Bool) (hk : k < r2.length) (hk2 : k < 1000000000000) (hp : gt r2 (k : Int) = strOf p) (hno : (10 : UInt8) ∉ p) (ht : t.size + p.length < 1000000000000) :
    lp (law02_WordLines_b2 r2 t (k : Int) K) big 0 = K (t ++ strOf p ++ strOf [10], ((k + 1 : Nat) : Int)) := by
  refine lp_eq (fun j : Nat => (j : Int)) p.length rfl (by omega) (fun K2 j hj => ?_) (fun K2 => ?_)
  · unfold law02_WordLines_b2
    rw [if_pos (by omega), hp, size_strOf, if_pos (by omega), if_pos (by omega), if_neg (show ¬ bt (strOf p) (j : Int) = 10 from bt_ne hj hno), w64_succ (by omega)]
  · unfold law02_WordLines_b2
    rw [if_pos (by omega), hp, size_strOf, if_neg (by omega), if_pos (by omega)]
    have e10 : (ByteArray.mk #[10]) = strOf [10] := rfl
    rw [e10, ByteArray.size_append, size_strOf, size_strOf, if_pos (by simp; omega), w64_succ (by omega)]
theorem lines_true (d : ByteArray) : law02_WordLines d = some true := by
  refine str_rec (p := fun d => law02_WordLines d = some true) (fun l => ?_) d
  unfold law02_WordLines
  rw [size_strOf, known_true]
  by_cases hl : 200 < (l.length : Int)
  · rw [if_pos hl]; rfl
  · rw [if_neg hl, Lines_eq l (by omega), Option.bind_some]
    have hlen := lines_len l
    have hjl : (joinT (linesL l)).length ≤ l.length + 1 := by
      rcases lines_end l with h | ⟨h, _⟩ <;> rw [h] <;> simp
    refine lp_eq (fun j : Nat => (strOf (joinT ((linesL l).take j)), (j : Int))) (linesL l).length (by rfl) (by omega) (fun K j hj => ?_) (fun K => ?_)
    · have hjt := joinT_len_take (linesL l) (j + 1)
      rw [joinT_succ _ _ hj] at hjt
      simp only [List.length_append, List.length_singleton] at hjt
      unfold law02_WordLines_b1
      dsimp only
      rw [if_pos (by simp; omega), lines_inner _ _ j ((linesL l)[j]) K (by simpa using hj) (by omega) (gt_map strOf _ hj) (lines_no l _ (List.getElem_mem hj)) (by rw [size_strOf]; omega), app_strOf, app_strOf, joinT_succ _ _ hj]
    · unfold law02_WordLines_b1
      dsimp only
      rw [if_neg (by simp), known_true, Option.bind_some, if_pos rfl, List.take_length, beq_strOf]
      rcases lines_end l with h | ⟨h, hne, hlast⟩
      · rw [h, if_pos (by simp)]
      · rw [h, if_neg (by simp), if_pos (by rw [size_strOf]; simp [show (ByteArray.mk #[10]).size = 1 from rfl]; omega), show (ByteArray.mk #[10]) = strOf [10] from rfl, app_strOf, beq_strOf, if_pos (by simp),
          show (ByteArray.mk #[]) = strOf [] from rfl, beq_strOf, if_neg (by simpa using hne), size_strOf]
        have hp : 0 < l.length := List.length_pos_iff.2 hne
        have e : w64 ((l.length : Int) - 1) = ((l.length - 1 : Nat) : Int) := by rw [w64_id (by omega) (by omega)]; omega
        rw [e, if_pos (by omega), bt_strOf (by omega)]
        rw [List.getLast_eq_getElem] at hlast
        have : ¬ ((l[l.length - 1]).toNat : Int) = 10 := fun e => hlast ((eq_i (c := 10)).1 e)
        simp [this]
theorem join_strOf (xs : List (List UInt8)) (t : List UInt8) : joinS (xs.map strOf) (strOf t) = strOf (Lib.join xs t) := by
  unfold joinS
  rw [List.map_map, data_strOf]
  have : (fun s : ByteArray => s.data.toList) ∘ strOf = id := funext fun l => data_strOf l
  rw [this, List.map_id]
theorem Join_eq (xs : List (List UInt8)) (t : List UInt8) (h1 : xs.length ≤ 140737488355328) (h2 : (Lib.join xs t).length ≤ 140737488355328) : word_Join (xs.map strOf) (strOf t) = some (strOf (Lib.join xs t)) := by
  unfold word_Join strings_Join
  rw [join_strOf, size_strOf, if_pos ⟨by simpa using h1, h2⟩]; rfl
theorem parts_true (d : ByteArray) : law02_WordParts d = some true := by
  refine str_rec (p := fun d => law02_WordParts d = some true) (fun l => ?_) d
  unfold law02_WordParts
  rw [size_strOf, known_true]
  by_cases hl : 200 < (l.length : Int)
  · rw [if_pos hl]; rfl
  · rw [if_neg hl]
    have hcl : ∀ j, (l.take j).count 32 ≤ j := fun j => Nat.le_trans List.count_le_length (by rw [List.length_take]; omega)
    refine lp_eq (fun j : Nat => ((((l.take j).count 32 + 1 : Nat) : Int), (j : Int))) l.length (by rfl) (by omega) (fun K j hj => ?_) (fun K => ?_)
    · have hc := hcl j
      have e : (l.take (j + 1)).count 32 = (l.take j).count 32 + if l[j] = 32 then 1 else 0 := by
        rw [List.take_succ_eq_append_getElem hj, List.count_append, List.count_singleton]; simp
      unfold law02_WordParts_b1
      dsimp only
      rw [size_strOf, if_pos (by omega), if_pos (by omega), bt_strOf hj, w64_succ (by omega), e]
      by_cases hb : l[j] = 32
      · rw [if_pos (show ((l[j]).toNat : Int) = 32 from (eq_i (c := 32)).2 hb), w64_succ (by omega), if_pos hb]
      · rw [if_neg (show ¬ ((l[j]).toNat : Int) = 32 from fun e => hb ((eq_i (c := 32)).1 e)), if_neg hb, w64_succ (by omega), Nat.add_zero]
    · unfold law02_WordParts_b1
      dsimp only
      rw [size_strOf, if_neg (by omega), Words_eq l (by omega), Option.bind_some, known_true, Option.bind_some, if_pos rfl, List.take_length, List.length_map, cutL_len, if_pos rfl,
        show (ByteArray.mk #[32]) = strOf [32] from rfl, Join_eq _ _ (by rw [cutL_len]; have := List.count_le_length (a := (32 : UInt8)) (l := l); omega) (by rw [cutL_join]; omega), Option.bind_some, cutL_join, beq_strOf]
      simp
/-! a digit more -/
theorem w64_fits {x : Int} (h : fits x) : w64 x = x := w64_id h.1 h.2
theorem numL_dig {d : List UInt8} (h : d.all dig = true) (h0 : d ≠ []) (h1 : d = [48] ∨ d.head? ≠ some 48) : numL d = if fits (val 0 d : Int) then ((val 0 d : Int), 0) else (0, 11) := by
  unfold numL
  rw [if_pos (form_dig h h0 h1), valI_dig h]
theorem numL_neg {d : List UInt8} (h : d.all dig = true) (h0 : d ≠ []) (h1 : d.head? ≠ some 48) : numL (45 :: d) = if fits (-(val 0 d : Int)) then (-(val 0 d : Int), 0) else (0, 11) := by
  unfold numL
  rw [if_pos (form_neg h h0 h1), valI_neg]
theorem wrap_nat {n : Nat} (h : n < 4611686018427387904) : w64 (n : Int) = n := w64_id (by omega) (by omega)
theorem digits_k (n : Int) (hn : fits n) : ∃ k : Nat, k ≤ 922337203685477580 ∧ (if (w64 (n.tdiv 10)) < 0 then w64 (0 - (w64 (n.tdiv 10))) else w64 (n.tdiv 10)) = (k : Int)   := by
    have h1 := hn.1
    have h2 := hn.2
    by_cases h0 : 0 ≤ n
    · have e := tdiv_nat (b := 10) h0
      have : w64 (n.tdiv 10) = n / 10 := by rw [e]; exact w64_id (by omega) (by omega)
      rw [this, if_neg (by omega)]
      exact ⟨(n / 10).toNat, by omega, by omega⟩
    · obtain ⟨q, hq⟩ : ∃ q : Nat, n = -(q : Int) := ⟨n.natAbs, by omega⟩
      have e : n.tdiv 10 = -((q / 10 : Nat) : Int) := by rw [hq, Int.neg_tdiv]; rfl
      have : w64 (n.tdiv 10) = -((q / 10 : Nat) : Int) := by rw [e]; exact w64_id (by omega) (by omega)
      rw [this]
      by_cases h3 : q / 10 = 0
      · rw [h3]; exact ⟨0, by omega, by simp⟩
      · rw [if_pos (by omega)]
        refine ⟨q / 10, by omega, ?_⟩
        rw [w64_id (by omega) (by omega)]; omega
theorem digits_g (d : Int) (hd : 0 ≤ d ∧ d ≤ 255) : ∃ g : Nat, g < 10 ∧ w64 (d.tmod 10) = (g : Int) := by
    refine ⟨(d % 10).toNat, by omega, ?_⟩
    rw [tmod_nat hd.1, w64_id (by omega) (by omega)]; omega
theorem digits_true (n d : Int) (m : Bool) (hn : fits n) (hd : 0 ≤ d ∧ d ≤ 255) : law02_WordDigits n d m = some true := by
  obtain ⟨k, hk, hkk⟩ := digits_k n hn
  obtain ⟨g, hg, hgg⟩ := digits_g d hd
  have hT : word_Text (k : Int) = some (strOf (Lib.decDigits k)) := by
    rw [Text_eq ⟨by omega, by omega⟩, itoa_nn (by omega)]; rfl
  have hG : word_Text (g : Int) = some (strOf [UInt8.ofNat (48 + g)]) := by
    rw [Text_eq ⟨by omega, by omega⟩, itoa_nn (by omega), show ((g : Nat) : Int).toNat = g by omega, dd_eq, if_pos hg]
  have hgd : dig (UInt8.ofNat (48 + g)) = true := dig_of hg
  have hgt : (UInt8.ofNat (48 + g)).toNat = 48 + g := ofNat_dig hg
  have hlen : (Lib.decDigits k).length ≤ 21 := by
    have := itoa_len (n := (k : Int)) ⟨by omega, by omega⟩
    rw [itoa_nn (by omega)] at this; exact this
  have hda := dd_all k k (Nat.le_refl _)
  have hdv := dd_val k k (Nat.le_refl _)
  have hs1 : (((strOf [45]).size + (strOf (Lib.decDigits k)).size : Nat) : Int) ≤ 9223372036854775807 := by rw [size_strOf, size_strOf]; simp; omega
  have hs2 : (((strOf (Lib.decDigits k)).size + (strOf [UInt8.ofNat (48 + g)]).size : Nat) : Int) ≤ 9223372036854775807 := by rw [size_strOf, size_strOf]; simp; omega
  have hs3 : (((strOf ([45] ++ Lib.decDigits k)).size + (strOf [UInt8.ofNat (48 + g)]).size : Nat) : Int) ≤ 9223372036854775807 := by rw [size_strOf, size_strOf]; simp; omega
  have hs4 : (((strOf []).size + (strOf [UInt8.ofNat (48 + g)]).size : Nat) : Int) ≤ 9223372036854775807 := by rw [size_strOf, size_strOf]; simp
  have hn0 : word_Number (strOf ([] ++ [UInt8.ofNat (48 + g)])) = some ((g : Int), 0) := by
    rw [List.nil_append, Number_eq _ (by simp), numL_dig (by rw [List.all_cons, hgd]; rfl) (by simp) ?_]
    · rw [val_cons, hgt, show val (0 * 10 + (48 + g - 48)) [] = g by simp [val], if_pos ⟨by omega, by omega⟩]
    · by_cases h : g = 0
      · left; subst h; rfl
      · right
        intro e
        have := congrArg UInt8.toNat (Option.some.inj e)
        rw [hgt] at this
        have h48 : (48 : UInt8).toNat = 48 := rfl
        omega
  have hv : val 0 (Lib.decDigits k ++ [UInt8.ofNat (48 + g)]) = k * 10 + g := by rw [val_app, hdv, hgt]; omega
  have hda2 : (Lib.decDigits k ++ [UInt8.ofNat (48 + g)]).all dig = true := by rw [List.all_append, hda, List.all_cons, hgd]; rfl
  have hh2 : k ≠ 0 → (Lib.decDigits k ++ [UInt8.ofNat (48 + g)]).head? ≠ some 48 := fun h => by
    rw [head_app _ (dd_ne k)]; exact dd_head k k (Nat.le_refl _) (by omega)
  have hnF : k ≠ 0 → word_Number (strOf (Lib.decDigits k ++ [UInt8.ofNat (48 + g)])) = some (if fits ((k * 10 + g : Nat) : Int) then (((k * 10 + g : Nat) : Int), 0) else (0, 11)) := fun h => by
    rw [Number_eq _ (by simp; omega), numL_dig hda2 (by simp) (.inr (hh2 h)), hv]
  have hnT : k ≠ 0 → word_Number (strOf ([45] ++ Lib.decDigits k ++ [UInt8.ofNat (48 + g)])) = some (if fits (-((k * 10 + g : Nat) : Int)) then (-((k * 10 + g : Nat) : Int), 0) else (0, 11)) := fun h => by
    rw [List.append_assoc, List.singleton_append, Number_eq _ (by simp; omega), numL_neg hda2 (by simp) (hh2 h), hv]
  have hdne : decide (Lib.decDigits k = []) = false := decide_eq_false (dd_ne k)
  have e0 : (ByteArray.mk #[]) = strOf [] := rfl
  have e45 : (ByteArray.mk #[45]) = strOf [45] := rfl
  have e10 : w64 (10 * (k : Int)) = 10 * (k : Int) := w64_id (by omega) (by omega)
  have hf0 : fits ((k * 10 + g : Nat) : Int) ↔ k < 922337203685477580 ∨ k = 922337203685477580 ∧ g ≤ 7 := by unfold fits; omega
  have hf1 : fits (-((k * 10 + g : Nat) : Int)) ↔ k < 922337203685477580 ∨ k = 922337203685477580 ∧ g ≤ 8 := by unfold fits; omega
  have hw0 : fits ((k * 10 + g : Nat) : Int) → w64 (10 * (k : Int) + g) = ((k * 10 + g : Nat) : Int) := fun h => by
    rw [show 10 * (k : Int) + g = ((k * 10 + g : Nat) : Int) by omega]; exact w64_fits h
  have hw1 : fits (-((k * 10 + g : Nat) : Int)) → w64 (0 - w64 (10 * (k : Int) + g)) = -((k * 10 + g : Nat) : Int) := fun h => by
    by_cases h8 : k = 922337203685477580 ∧ g = 8
    · obtain ⟨rfl, rfl⟩ := h8; rfl
    · have h7 : fits ((k * 10 + g : Nat) : Int) := by rw [hf0]; have := hf1.1 h; omega
      rw [hw0 h7, Int.zero_sub]; exact w64_fits h
  -- the tail: which number it is, and whether it fits
  have tail : ∀ (b : Bool) (v : Int), (∀ r3 : Int × Int, r3 = (if b = true then (v, 0) else (0, 11)) →
      ((some true : Option Bool).bind fun r4 => (if r4 = true then (if ((decide (r3.2 = 0)) == b) = true then (if b = true then (if r3.1 = v then (some true) else (some false)) else (if r3.2 = 11 then (some (decide (r3.1 = 0))) else (some false))) else (some false)) else (some false))) = some true) := by
    rintro b v _ rfl
    cases b <;> simp
  have e8 : ∀ K : Bool → Option Bool, (if (k : Int) < 922337203685477580 then K true else (if (k : Int) = 922337203685477580 then (if (g : Int) ≤ 7 then K true else (if (g : Int) = 8 then K m else K false)) else K false)) = K (decide (k < 922337203685477580) || decide (k = 922337203685477580) && (decide (g ≤ 7) || decide (g = 8) && m)) := fun K => by
    by_cases h1 : k < 922337203685477580
    · rw [if_pos (by omega), decide_eq_true h1, Bool.true_or]
    · rw [if_neg (by omega), decide_eq_false h1, Bool.false_or]
      by_cases h2 : k = 922337203685477580
      · rw [if_pos (by omega), decide_eq_true h2, Bool.true_and]
        by_cases h3 : g ≤ 7
        · rw [if_pos (by omega), decide_eq_true h3, Bool.true_or]
        · rw [if_neg (by omega), decide_eq_false h3, Bool.false_or]
          by_cases h4 : g = 8
          · rw [if_pos (by omega), decide_eq_true h4, Bool.true_and]
          · rw [if_neg (by omega), decide_eq_false h4, Bool.false_and]
      · rw [if_neg (by omega), decide_eq_false h2, Bool.false_and]
  have e8' : ∀ X : Bool → Option Bool, lt X (fun k5 : Bool → Option Bool => if (k : Int) < 922337203685477580 then k5 true else (if (k : Int) = 922337203685477580 then (if (g : Int) ≤ 7 then k5 true else (if (g : Int) = 8 then k5 m else k5 false)) else k5 false)) = X (decide (k < 922337203685477580) || decide (k = 922337203685477580) && (decide (g ≤ 7) || decide (g = 8) && m)) := fun X => by rw [lt_eq]; exact e8 X
  unfold law02_WordDigits
  by_cases hc : w64 (n.tdiv 10) < 0
  all_goals
    simp only [hc, if_true, if_false] at hkk
    rw [lt_eq]
    first
    | rw [if_pos hc, hkk]
    | rw [if_neg hc, hkk]
    dsimp only
    rw [hT, Option.bind_some, lt_eq]
    by_cases hk0 : k = 0
    · have hb : (decide (k < 922337203685477580) || decide (k = 922337203685477580) && (decide (g ≤ 7) || decide (g = 8) && m)) = true := by rw [decide_eq_true (by omega), Bool.true_or]
      have ev : w64 (w64 (10 * (k : Int)) + g) = g := by
        rw [e10, hw0 (hf0.2 (.inl (by omega)))]; omega
      rw [if_pos (show (k : Int) = 0 by omega)]
      dsimp only
      rw [lt_eq]
      cases m
      · rw [if_neg (by decide)]
        dsimp only
        rw [lt_eq, if_neg (by decide)]
        dsimp only
        rw [hgg, hG, Option.bind_some, e0, if_pos hs4, app_strOf, hn0, Option.bind_some, e8', hb]
        dsimp only
        rw [lt_eq, if_neg (by decide)]
        dsimp only
        rw [lt_eq, if_neg (by decide), ev, known_true]
        exact tail true (g : Int) ((g : Int), 0) rfl
      · rw [if_pos rfl, e0, beq_strOf, decide_eq_true rfl, Bool.not_true]
        dsimp only
        rw [lt_eq, if_neg (by decide)]
        dsimp only
        rw [hgg, hG, Option.bind_some, if_pos hs4, app_strOf, hn0, Option.bind_some, e8', hb]
        dsimp only
        rw [lt_eq, if_pos rfl, beq_strOf, show decide (([] : List UInt8) = []) = true from rfl, Bool.not_true]
        dsimp only
        rw [lt_eq, if_neg (by decide), ev, known_true]
        exact tail true (g : Int) ((g : Int), 0) rfl
    · rw [if_neg (show ¬ (k : Int) = 0 by omega)]
      dsimp only
      rw [lt_eq]
      cases m
      · rw [if_neg (by decide)]
        dsimp only
        rw [lt_eq, if_neg (by decide)]
        dsimp only
        rw [hgg, hG, Option.bind_some, if_pos hs2, app_strOf, hnF hk0, Option.bind_some, e8']
        try dsimp only
        rw [lt_eq, if_neg (by decide)]
        dsimp only
        rw [lt_eq, if_neg (by decide), e10, known_true]
        by_cases hf : fits ((k * 10 + g : Nat) : Int)
        · have hb : (decide (k < 922337203685477580) || decide (k = 922337203685477580) && (decide (g ≤ 7) || decide (g = 8) && false)) = true := by
            rcases hf0.1 hf with h | h <;> simp [h]
          rw [hb, hw0 hf]
          refine tail true _ _ ?_
          rw [if_pos hf, if_pos rfl]
        · have hb : (decide (k < 922337203685477580) || decide (k = 922337203685477580) && (decide (g ≤ 7) || decide (g = 8) && false)) = false := by
            have h := fun e => hf (hf0.2 e)
            rw [decide_eq_false (fun e => h (.inl e)), Bool.false_or, Bool.and_false, Bool.or_false, Bool.and_eq_false_iff]
            by_cases h2 : k = 922337203685477580
            · right; exact decide_eq_false fun e => h (.inr ⟨h2, e⟩)
            · left; exact decide_eq_false h2
          rw [hb]
          refine tail false _ _ ?_
          rw [if_neg hf, if_neg (by decide)]
      · rw [if_pos rfl, e0, beq_strOf, hdne, Bool.not_false]
        dsimp only
        rw [lt_eq, if_pos rfl, e45, if_pos hs1, app_strOf]
        dsimp only
        rw [hgg, hG, Option.bind_some, if_pos hs3, app_strOf, hnT hk0, Option.bind_some, e8']
        try dsimp only
        rw [lt_eq, if_pos rfl, beq_strOf, show decide ([45] ++ Lib.decDigits k = []) = false from decide_eq_false (by simp), Bool.not_false]
        dsimp only
        rw [lt_eq, if_pos rfl, e10, known_true]
        by_cases hf : fits (-((k * 10 + g : Nat) : Int))
        · have hb : (decide (k < 922337203685477580) || decide (k = 922337203685477580) && (decide (g ≤ 7) || decide (g = 8) && true)) = true := by
            rcases hf1.1 hf with h | h
            · simp [h]
            · have : g ≤ 7 ∨ g = 8 := by omega
              rcases this with h2 | h2 <;> simp [h.1, h2]
          rw [hb, hw1 hf]
          refine tail true _ _ ?_
          rw [if_pos hf, if_pos rfl]
        · have hb : (decide (k < 922337203685477580) || decide (k = 922337203685477580) && (decide (g ≤ 7) || decide (g = 8) && true)) = false := by
            have h := fun e => hf (hf1.2 e)
            rw [decide_eq_false (fun e => h (.inl e)), Bool.false_or, Bool.and_true, Bool.and_eq_false_iff]
            by_cases h2 : k = 922337203685477580
            · right
              rw [decide_eq_false (fun e => h (.inr ⟨h2, by omega⟩)), decide_eq_false (fun e => h (.inr ⟨h2, by omega⟩))]; rfl
            · left; exact decide_eq_false h2
          rw [hb]
          refine tail false _ _ ?_
          rw [if_neg hf, if_neg (by decide)]
end Go.Proofs.YthelgjfdkdaijaaDoor
