/- Word, plain: strings as lists of bytes; a text in its parts; lines. -/
import Derived.Test.YthelgjfdkdaijaaDoorGD
import Derived.Test.YthelgjfdkdaijaaDoorThL
import Derived.Lib.ItoaLen
namespace Go.Proofs.YthelgjfdkdaijaaDoor
open Go.RowKit Go.Qe
theorem str_ext {s t : ByteArray} (h : s.data.toList = t.data.toList) : s = t := by rw [← strOf_data s, ← strOf_data t, h]
theorem beq_str (s t : ByteArray) : (s.toList == t.toList) = decide (s = t) := by
  rw [Lib.toList_data, Lib.toList_data]
  by_cases h : s = t
  · subst h; simp
  · rw [decide_eq_false h]
    simpa using fun e => h (str_ext e)
theorem strOf_inj {a b : List UInt8} : strOf a = strOf b ↔ a = b := ⟨fun h => by have := congrArg (fun s : ByteArray => s.data.toList) h; simpa [data_strOf] using this, fun h => by rw [h]⟩
theorem beq_strOf (a b : List UInt8) : ((strOf a).toList == (strOf b).toList) = decide (a = b) := by
  rw [beq_str]; exact decide_eq_decide.2 strOf_inj
theorem size_strOf (l : List UInt8) : (strOf l).size = l.length := by simp [strOf, ByteArray.size]
theorem app_strOf (a b : List UInt8) : strOf a ++ strOf b = strOf (a ++ b) := str_ext (by simp [strOf])
theorem ext_strOf (l : List UInt8) (a b : Nat) : (strOf l).extract a b = strOf ((l.take b).drop a) := str_ext (by rw [Lib.extract_data, data_strOf, data_strOf, List.drop_take])
theorem bt_strOf {l : List UInt8} {j : Nat} (h : j < l.length) : bt (strOf l) (j : Int) = (l[j].toNat : Int) := by
  have e : (strOf l)[(j : Int).toNat]? = some l[j] := by
    rw [Int.toNat_natCast]
    show (strOf l).data[j]? = _
    simp [strOf, h]
  unfold bt
  rw [e]
theorem gt_map {α β : Type} [Inhabited α] [Inhabited β] (f : α → β) (l : List α) {j : Nat} (h : j < l.length) : gt (l.map f) (j : Int) = f (l[j]) := by
  rw [gt_get (by simpa using h)]; simp
theorem str_rec {p : ByteArray → Prop} (h : ∀ l, p (strOf l)) (s : ByteArray) : p s := strOf_data s ▸ h _
/-! parts -/
theorem cutL_ne (c : UInt8) : ∀ l : List UInt8, cutL c l ≠ []
  | [] => by simp [cutL]
  | x :: r => by
    unfold cutL
    split
    · simp
    · split <;> simp
theorem cutL_cons (c x : UInt8) (l : List UInt8) : cutL c (x :: l) = if x = c then [] :: cutL c l else (x :: (cutL c l).head (cutL_ne c l)) :: (cutL c l).tail := by
  rw [show cutL c (x :: l) = (if x = c then [] :: cutL c l else match cutL c l with
      | [] => [[x]]
      | h :: t => (x :: h) :: t) from rfl]
  split
  · rfl
  · obtain ⟨a, b, e⟩ := List.exists_cons_of_ne_nil (cutL_ne c l)
    simp only [e, List.head_cons, List.tail_cons]
theorem cutL_len (c : UInt8) : ∀ l : List UInt8, (cutL c l).length = l.count c + 1
  | [] => rfl
  | x :: r => by
    have := cutL_len c r
    rw [cutL_cons]
    by_cases h : x = c
    · simp [h, this]
    · rw [if_neg h, List.count_cons_of_ne h]
      simp [this]
theorem cutL_no (c : UInt8) : ∀ l : List UInt8, ∀ p ∈ cutL c l, c ∉ p
  | [], p, hp => by simp [cutL] at hp; subst hp; simp
  | x :: r, p, hp => by
    have ih := cutL_no c r
    rw [cutL_cons] at hp
    by_cases h : x = c
    · rw [if_pos h] at hp
      rcases List.mem_cons.1 hp with rfl | hp
      · simp
      · exact ih p hp
    · rw [if_neg h] at hp
      rcases List.mem_cons.1 hp with rfl | hp
      · intro hc
        rcases List.mem_cons.1 hc with e | hc
        · exact h e.symm
        · exact ih _ (List.head_mem _) hc
      · exact ih p (List.mem_of_mem_tail hp)
theorem cutL_join (c : UInt8) : ∀ l : List UInt8, Lib.join (cutL c l) [c] = l
  | [] => rfl
  | x :: r => by
    have ih := cutL_join c r
    have hne := cutL_ne c r
    rw [cutL_cons]
    obtain ⟨a, b, e⟩ := List.exists_cons_of_ne_nil hne
    simp only [e] at ih ⊢
    rw [Lib.join_cons] at ih
    by_cases h : x = c
    · rw [if_pos h, Lib.join_cons]
      simp only [Lib.joinTail, List.map_cons, List.flatten_cons, List.nil_append] at ih ⊢
      rw [List.append_assoc, ih, h]; rfl
    · rw [if_neg h, Lib.join_cons, List.head_cons, List.tail_cons, List.cons_append, ih]
theorem cutL_last (c : UInt8) : ∀ l : List UInt8, c ∉ l → cutL c l = [l]
  | [], _ => rfl
  | x :: r, h => by
    have hx : ¬ x = c := fun e => h (by rw [e]; exact List.mem_cons_self)
    rw [cutL_cons, if_neg hx]
    simp [cutL_last c r (fun e => h (List.mem_cons_of_mem _ e))]
theorem cutL_app (c : UInt8) : ∀ (a l : List UInt8), c ∉ a → cutL c (a ++ c :: l) = a :: cutL c l
  | [], l, _ => by rw [List.nil_append, cutL_cons, if_pos rfl]
  | x :: a, l, h => by
    have hx : ¬ x = c := fun e => h (by rw [e]; exact List.mem_cons_self)
    rw [List.cons_append, cutL_cons, if_neg hx]
    simp [cutL_app c a l (fun e => h (List.mem_cons_of_mem _ e))]
theorem cut_joined (c : UInt8) : ∀ (xs : List (List UInt8)), xs ≠ [] → (∀ x ∈ xs, c ∉ x) → cutL c (Lib.join xs [c]) = xs
  | [], h, _ => absurd rfl h
  | [x], _, h => by rw [Lib.join_one]; exact cutL_last c x (h x (by simp))
  | x :: y :: r, _, h => by
    have ih := cut_joined c (y :: r) (by simp) (fun z hz => h z (List.mem_cons_of_mem _ hz))
    rw [Lib.join_cons] at ih ⊢
    rw [show x ++ Lib.joinTail [c] (y :: r) = x ++ c :: (y ++ Lib.joinTail [c] r) by simp [Lib.joinTail]]
    rw [cutL_app c x _ (h x (by simp)), ih]
/-- the parts, from a place on -/
theorem index_split {c : UInt8} {l : List UInt8} (h : ¬ Lib.indexByte l c = -1) : ∃ i : Nat, Lib.indexByte l c = i ∧ i < l.length := by
  have hge := Lib.indexByte_ge l c
  obtain ⟨i, hi⟩ := Int.eq_ofNat_of_zero_le (show 0 ≤ Lib.indexByte l c by omega)
  refine ⟨i, hi, ?_⟩
  rcases Nat.lt_or_ge i l.length with h | h
  · exact h
  · have := (Lib.indexByte_some hi).1; rw [List.getElem?_eq_none h] at this; cases this
theorem splitSeq_b2 (c : UInt8) : ∀ (n : Nat) (l : List UInt8) (N : Nat), l.length ≤ n → l.length < N → l.length < 4611686018427387904 →
    lp (strings_splitSeq_1_b2 (strOf [c]) 0) N (strOf l) = some ((cutL c l).map strOf) := by
  intro n
  induction n with
  | zero =>
    intro l N hn hN _
    obtain ⟨N, rfl⟩ : ∃ M, N = M + 1 := ⟨N - 1, by omega⟩
    obtain rfl : l = [] := List.eq_nil_of_length_eq_zero (by omega)
    show strings_splitSeq_1_b2 _ _ _ _ = _
    simp [strings_splitSeq_1_b2, strings_Index, data_strOf, Lib.indexByte, cutL]
  | succ n ih =>
    intro l N hn hN hb
    obtain ⟨N, rfl⟩ : ∃ M, N = M + 1 := ⟨N - 1, by omega⟩
    have ih' := fun l h1 h2 h3 => ih l N h1 h2 h3
    clear ih
    show strings_splitSeq_1_b2 _ _ (lp _ N) _ = _
    generalize lp (strings_splitSeq_1_b2 (strOf [c]) 0) N = k at ih' ⊢
    have hI : strings_Index (strOf l) (strOf [c]) = some (Lib.indexByte l c) := by simp [strings_Index, data_strOf]
    unfold strings_splitSeq_1_b2
    rw [hI, Option.bind_some, cutL_eq]
    by_cases h : Lib.indexByte l c = -1
    · rw [if_pos (by omega), if_pos h]; rfl
    · obtain ⟨i, hi, hl⟩ := index_split h
      rw [hi, if_neg (by omega), if_neg (show ¬ ((i : Int) = -1) by omega), size_strOf, size_strOf]
      have e1 : w64 ((i : Int) + 0) = (i : Int) := by rw [w64_id (by omega) (by omega)]; omega
      have e2 : w64 ((i : Int) + (([c] : List UInt8).length : Int)) = ((i + 1 : Nat) : Int) := by rw [w64_id (by simp; omega) (by simp; omega)]; simp
      rw [e1, e2, if_pos (by omega), if_pos (by omega), ext_strOf, ext_strOf]
      simp only [Int.toNat_natCast, Int.toNat_zero, List.drop_zero, List.take_length]
      rw [ih' (l.drop (i + 1)) (by rw [List.length_drop]; omega) (by rw [List.length_drop]; omega) (by rw [List.length_drop]; omega)]
      rfl
theorem splitSeq_eq (c : UInt8) (l : List UInt8) (hb : l.length < 4611686018427387904) : strings_splitSeq_1 (strOf [c]) (strOf l) 0 = some ((cutL c l).map strOf) := by
  unfold strings_splitSeq_1
  rw [if_neg (by rw [size_strOf]; simp)]
  exact splitSeq_b2 c _ l big (Nat.le_refl _) hb hb
theorem lines_r1 (kd : List ByteArray → Option (List ByteArray)) : ∀ (xs pre : List ByteArray), pre.length + xs.length ≤ lim → fe word_Lines_r1 xs kd pre = kd (pre ++ xs)
  | [], pre, _ => by rw [List.append_nil]; rfl
  | x :: xs, pre, h => by
    simp only [List.length_cons] at h
    have ih := lines_r1 kd xs (pre ++ [x]) (by simp; omega)
    have hk : ∀ k, word_Lines_r1 x k pre = k (pre ++ [x]) := fun k => by
      unfold word_Lines_r1
      rw [if_pos (by simp only [List.length_singleton]; omega)]; rfl
    refine (hk _).trans (ih.trans ?_)
    rw [List.append_assoc]; rfl
/-- the lines of a text -/
def linesL (l : List UInt8) : List (List UInt8) := if (cutL 10 l).getLast (cutL_ne 10 l) = [] then (cutL 10 l).dropLast else cutL 10 l
theorem last_eq {xs : List ByteArray} (hne : xs ≠ []) (hl : xs.length < 4611686018427387904) (f : List ByteArray → Option (List ByteArray)) :
    (if 0 ≤ (w64 ((xs.length : Int) - 1)) ∧ (w64 ((xs.length : Int) - 1)) < (xs.length : Int) then (if ((gt xs (w64 ((xs.length : Int) - 1))).toList == (ByteArray.mk #[]).toList) = true then (if 0 ≤ (w64 ((xs.length : Int) - 1)) ∧ (w64 ((xs.length : Int) - 1)) ≤ (xs.length : Int) then f (xs.take (w64 ((xs.length : Int) - 1)).toNat) else none) else some xs) else none) =
      if xs.getLast hne = strOf [] then f xs.dropLast else some xs := by
  have hp : 0 < xs.length := List.length_pos_iff.2 hne
  have e : w64 ((xs.length : Int) - 1) = ((xs.length - 1 : Nat) : Int) := by rw [w64_id (by omega) (by omega)]; omega
  rw [e, if_pos (by omega), show (ByteArray.mk #[]) = strOf [] from rfl, beq_str, gt_get (by omega), List.getLast_eq_getElem]
  by_cases h : xs[xs.length - 1] = strOf []
  · rw [if_pos (decide_eq_true h), if_pos (by omega), if_pos h, Int.toNat_natCast, List.dropLast_eq_take]
  · rw [if_neg (fun e => h (of_decide_eq_true e)), if_neg h]
theorem map_linesL (l : List UInt8) (hne : (cutL 10 l).map strOf ≠ []) : (if ((cutL 10 l).map strOf).getLast hne = strOf [] then some ((cutL 10 l).map strOf).dropLast else some ((cutL 10 l).map strOf)) = some ((linesL l).map strOf) := by
  unfold linesL
  rw [List.getLast_map]
  by_cases h : (cutL 10 l).getLast (cutL_ne 10 l) = []
  · rw [if_pos (by rw [h]), if_pos h, List.map_dropLast]
  · rw [if_neg (fun e => h (strOf_inj.1 e)), if_neg h]
theorem Lines_eq (l : List UInt8) (hb : l.length < 100000000000) : word_Lines (strOf l) = some ((linesL l).map strOf) := by
  have hc := cutL_len 10 l
  have hle := List.count_le_length (a := (10 : UInt8)) (l := l)
  have hlen : ((cutL 10 l).map strOf).length = l.count 10 + 1 := by rw [List.length_map, hc]
  have hne : (cutL 10 l).map strOf ≠ [] := by simpa using cutL_ne 10 l
  unfold word_Lines
  rw [show (ByteArray.mk #[10]) = strOf [10] from rfl, splitSeq_eq 10 l (by omega), Option.bind_some, lt_eq, lines_r1 _ _ _ (by rw [hlen]; simp [lim]; omega), List.nil_append]
  rw [← map_linesL l hne, ← last_eq hne (by omega) (fun x => some x)]
  rfl
theorem Words_eq (l : List UInt8) (hb : l.length < 4294967281) : word_Words (strOf l) = some ((cutL 32 l).map strOf) := by
  unfold word_Words strings_Split
  simp [show (ByteArray.mk #[32]).data.toList = [32] from rfl, size_strOf, hb, cutS, data_strOf]
theorem Same_eq (a b : List ByteArray) (ha : a.length < 4611686018427387904) (hb : b.length < 4611686018427387904) : ref02_Same a b = some (decide (a = b)) := by
  unfold ref02_Same
  by_cases hl : a.length = b.length
  · rw [if_neg (by omega)]
    have := lp_find (body := ref02_Same_b1 a b) (fun j : Nat => (j : Int)) a.length (fun j => if gt a (j : Int) = gt b (j : Int) then none else some (some false)) (fin := some true) (s0 := 0) rfl ha
      (fun k j hj => by
        unfold ref02_Same_b1
        rw [if_pos (by omega), if_pos (by omega), if_pos (by omega), beq_str, w64_succ (by omega)]
        by_cases h : gt a (j : Int) = gt b (j : Int)
        · rw [if_pos (by simpa using h)]; simp only [if_pos h]
        · rw [if_neg (by simpa using h)]; simp only [if_neg h])
      (fun k => by unfold ref02_Same_b1; rw [if_neg (by omega)])
    rw [this]
    by_cases h : a = b
    · subst h
      rw [List.findSome?_eq_none_iff.2 (fun x _ => by simp)]
      simp
    · have : ∃ j, j < a.length ∧ ¬ gt a (j : Int) = gt b (j : Int) := by
        apply Classical.byContradiction
        intro hn
        refine h (List.ext_getElem hl fun i h1 h2 => ?_)
        apply Classical.byContradiction
        intro he
        exact hn ⟨i, h1, by rw [gt_get h1, gt_get h2]; exact he⟩
      obtain ⟨j, hj, hne⟩ := this
      have hs : ((List.range a.length).findSome? fun j : Nat => if gt a (j : Int) = gt b (j : Int) then none else some (some false)) = some (some false) := by
        cases hf : (List.range a.length).findSome? fun j : Nat => if gt a (j : Int) = gt b (j : Int) then none else some (some false) with
        | none =>
          have := List.findSome?_eq_none_iff.1 hf j (List.mem_range.2 hj)
          rw [if_neg hne] at this; cases this
        | some x =>
          obtain ⟨y, _, hy⟩ := List.exists_of_findSome?_eq_some hf
          split at hy
          · cases hy
          · exact hy.symm ▸ rfl
      rw [hs, decide_eq_false h]
  · rw [if_pos (by omega), decide_eq_false (fun e => hl (by rw [e]))]
end Go.Proofs.YthelgjfdkdaijaaDoor
