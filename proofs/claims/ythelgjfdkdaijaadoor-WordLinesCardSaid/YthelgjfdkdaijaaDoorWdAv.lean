/- Word: the library's functions in the walks' form. -/
import Derived.Test.YthelgjfdkdaijaaDoorShelf
import Derived.Test.YthelgjfdkdaijaaDoorEngS
import Derived.Sort.Grow
import Derived.Lib.SplitLaws
import Derived.Lib.IndexMore
import Derived.Lib.ItoaNum
import Derived.Lib.ParseIntB
namespace Go.Proofs.YthelgjfdkdaijaaDoor
open Go.RowKit Go.Qe
abbrev tab10 : Array Value := (Lib.pow10Tab.map fun z => Value.int .u64 z).toArray
/-- the package variables that are read, as they were laid -/
def GlobE (Z : PH) : Prop := (∃ t fr, Z 0 = some (.cells tab10 t fr)) ∧ (∃ tp p, Zc Z 2 0 = some (.iface tp p)) ∧ ∃ m, Zc Z 5 0 = some (.int .i64 m)
theorem GlobE.le {Z Z' : PH} (h : GlobE Z) (hz : Z.le Z') : GlobE Z' := by
  obtain ⟨⟨t, fr, h1⟩, ⟨tp, p, h2⟩, m, h3⟩ := h
  exact ⟨⟨t, fr, hz _ _ h1⟩, ⟨tp, p, hz.cell h2⟩, m, hz.cell h3⟩
theorem GlobE.tab {w : World} (h : GlobE (PH.of w)) : Lib.TabIs Tryd.prog w "internal/strconv.uint64pow10" .u64 Lib.pow10Tab := by
  obtain ⟨⟨t, fr, h1⟩, _⟩ := h
  have hg : Tryd.prog.globalNamed "internal/strconv.uint64pow10" = some 0 := by kernel_rfl
  have h2 : w.heap[0]? = some (.cells tab10 t fr) := h1
  simp [Lib.TabIs, World.var?, hg, h2, tab10]
theorem below_grow (w : World) (k : Nat) (os : Array Obj) : Below w.heap.size w (Sort.grow (w.drewN k) os) :=
  ⟨rfl, rfl, rfl, by simp [Sort.grow], fun i hi => by
    show ((w.drewN k).heap ++ os)[i]? = _
    rw [Array.getElem?_append_left (by show i < w.heap.size; omega)]
    rfl⟩
theorem below_bytes (w : World) (e : TypeId) (t : ByteArray) : Below w.heap.size w (Lib.bytesWorld w e t) := Lib.bytesWorld_below _ _ _
def strOf (l : List UInt8) : ByteArray := ⟨l.toArray⟩
/-- strconv.FormatInt at base 10 -/
def strconv_FormatInt (n b : Int) : Option ByteArray := if b = 10 ∧ -9223372036854775808 ≤ n ∧ n ≤ 9223372036854775807 then some (strOf (Lib.itoa n)) else none
theorem strconv_FormatInt_w {w : World} {n b : Int} {r : ByteArray} (h : strconv_FormatInt n b = some r) (pg : GlobE (PH.of w)) :
    Calls Tryd.prog 23 #[.int .i64 n, .int .i64 b] w fun e w' => e = .returned (.string r) ∧ Below w.heap.size w w' := by
  unfold strconv_FormatInt at h
  split at h
  · rename_i hb
    cases h
    obtain ⟨rfl, h0, h1⟩ := hb
    exact (Tryd.strconv_FormatInt_10 n h0 h1 w pg.tab).mono fun e w' ⟨he, k, os, hw⟩ => ⟨he, by rw [hw]; exact below_grow w k os⟩
  · cases h
/-- strconv.ParseInt(s, 10, 64) -/
def pRng (s : ByteArray) : Bool := match Lib.parseIntB 64 s.data.toList with
  | .range => true
  | _ => false
def pVal (s : ByteArray) : Option Int := match Lib.parseIntB 64 s.data.toList with
  | .ok v => some v
  | _ => none
def pSat (s : ByteArray) : Int := Lib.intSat 64 s.data.toList
abbrev pErr_S (s : ByteArray) : Value → Heap → Prop := fun v L => ∃ N : Nat, v = .tuple #[.int .i64 (pSat s), .iface 79 (.pointer (some ⟨N, 0, none⟩))] ∧ L = []
theorem pErr_w {w : World} {s : ByteArray} (hs : s.size ≤ 281474976710656) (h : pRng s = true) (pg : GlobE (PH.of w)) :
    Calls Tryd.prog 25 #[.string s, .int .i64 10, .int .i64 64] w fun e w' => ∃ v L, e = .returned v ∧ pErr_S s v L ∧ Ret w w' L := by
  obtain ⟨_, ⟨tp, p, h2⟩, _⟩ := pg
  have hc : w.cell? ⟨2, 0, none⟩ = some (.iface tp p) := by rw [← Zc_of]; exact h2
  have hp : Lib.parseIntB 64 s.data.toList = .range := by
    unfold pRng at h
    split at h
    · assumption
    · cases h
  exact (Tryd.strconv_ParseInt_10_at64_range s hs hp _ w hc (.inr ⟨_, _, rfl⟩)).mono fun e w' ⟨N, he, _, _, hb⟩ => ⟨_, [], he, ⟨N, rfl, rfl⟩, Ret.nil hb⟩
theorem pVal_w {w : World} {s : ByteArray} {v : Int} (hs : s.size ≤ 281474976710656) (h : pVal s = some v) :
    Calls Tryd.prog 25 #[.string s, .int .i64 10, .int .i64 64] w fun e w' => e = .returned (.tuple #[.int .i64 v, .nilIface]) ∧ Below w.heap.size w w' := by
  have hp : Lib.parseIntB 64 s.data.toList = .ok v := by
    unfold pVal at h
    split at h
    · cases h; assumption
    · cases h
  exact (Tryd.strconv_ParseInt_10_at64_ok s (by omega) v hp w).mono fun e w' ⟨he, hb⟩ => ⟨he, by
    rcases hb with rfl | ⟨t, rfl⟩
    · exact Below.refl _ _
    · exact below_bytes w _ t⟩
def unicode_utf8_DecodeRuneInString (_ : ByteArray) : Option (Int × Int) := none
theorem unicode_utf8_DecodeRuneInString_w {w : World} {s : ByteArray} {r : Int × Int} (h : unicode_utf8_DecodeRuneInString s = some r) :
    Calls Tryd.prog 43 #[.string s] w fun e w' => e = .returned (.tuple #[.int .i32 r.1, .int .i64 r.2]) ∧ Below w.heap.size w w' := by cases h
/-- strings.Index at one byte -/
def strings_Index (s t : ByteArray) : Option Int := match t.data.toList with
  | [c] => some (Lib.indexByte s.data.toList c)
  | _ => none
theorem strings_Index_w {w : World} {s t : ByteArray} {r : Int} (h : strings_Index s t = some r) :
    Calls Tryd.prog 44 #[.string s, .string t] w fun e w' => e = .returned (.int .i64 r) ∧ Below w.heap.size w w' := by
  unfold strings_Index at h
  split at h
  · rename_i c hc
    cases h
    obtain rfl : t = ⟨#[c]⟩ := by
      cases t with
      | mk d => rw [show d = #[c] from by rw [← Array.toArray_toList (xs := d)]; simp only at hc; rw [hc]]
    exact (Tryd.strings_Index_one s c w).mono fun e w' ⟨he, hw⟩ => ⟨he, by rw [hw]; exact Below.refl _ _⟩
  · cases h
/-- a text in its parts -/
def cutL (c : UInt8) : List UInt8 → List (List UInt8)
  | [] => [[]]
  | x :: r => if x = c then [] :: cutL c r else match cutL c r with
    | [] => [[x]]
    | h :: t => (x :: h) :: t
theorem cutL_eq (c : UInt8) : ∀ s : List UInt8, cutL c s = if Lib.indexByte s c = -1 then [s] else s.take (Lib.indexByte s c).toNat :: cutL c (s.drop ((Lib.indexByte s c).toNat + 1))
  | [] => by simp [cutL, Lib.indexByte]
  | b :: l => by
    have ih := cutL_eq c l
    have hge := Lib.indexByte_ge l c
    rw [show cutL c (b :: l) = (if b = c then [] :: cutL c l else match cutL c l with
      | [] => [[b]]
      | h :: t => (b :: h) :: t) from rfl]
    unfold Lib.indexByte
    by_cases hb : b = c
    · simp [hb]
    · rw [if_neg hb]
      simp only [beq_iff_eq, hb, if_false]
      by_cases h1 : Lib.indexByte l c = -1
      · rw [if_pos h1] at ih
        simp [h1, ih]
      · rw [if_neg h1] at ih
        rw [if_neg h1, if_neg (by omega), ih]
        have : (Lib.indexByte l c + 1).toNat = (Lib.indexByte l c).toNat + 1 := by omega
        simp [this]
theorem index_byte (c : UInt8) : ∀ s : List UInt8, Lib.index s [c] = Lib.indexByte s c
  | [] => by simp [Lib.index, Lib.indexByte]
  | b :: l => by
    unfold Lib.index Lib.indexByte
    rw [index_byte c l]
    by_cases hb : b = c
    · subst hb; simp [List.isPrefixOf]
    · have : (c == b) = false := by simpa using fun h => hb h.symm
      have h2 : (b == c) = false := by simpa using hb
      simp [List.isPrefixOf, this, h2]
theorem splitK_cut (c : UInt8) : ∀ (n : Nat) (s : List UInt8), s.length ≤ n → Lib.splitK [c] 0 (Lib.count s [c]) s = cutL c s
  | n, s, hn => by
    rw [cutL_eq]
    rcases Classical.em (Lib.indexByte s c = -1) with h | h
    · rw [if_pos h, Lib.count_miss (by rw [index_byte]; exact h)]; rfl
    · have hge := Lib.indexByte_ge s c
      obtain ⟨i, hi⟩ := Int.eq_ofNat_of_zero_le (show 0 ≤ Lib.indexByte s c by omega)
      rw [if_neg h, Lib.count_hit (i := i) (by simp) (by rw [index_byte]; exact hi), Nat.add_comm 1]
      unfold Lib.splitK
      rw [index_byte, if_neg (by simpa using h), hi]
      have hlt := Lib.indexByte_some hi
      have : i < s.length := by
        rcases Nat.lt_or_ge i s.length with h | h
        · exact h
        · rw [List.getElem?_eq_none h] at hlt; cases hlt.1
      cases n with
      | zero => omega
      | succ n =>
        have := splitK_cut c n (s.drop (i + 1)) (by rw [List.length_drop]; omega)
        simp only [List.length_singleton, Int.toNat_natCast, Nat.add_zero]
        rw [this]
def cutS (c : UInt8) (s : ByteArray) : List ByteArray := (cutL c s.data.toList).map strOf
theorem strOf_data (s : ByteArray) : strOf s.data.toList = s := by cases s; simp [strOf]
theorem data_strOf (l : List UInt8) : (strOf l).data.toList = l := by simp [strOf]
theorem splitB_cut (c : UInt8) (s : ByteArray) : Lib.splitB ⟨#[c]⟩ 0 (Lib.countB s ⟨#[c]⟩) s = cutS c s := by
  have h := Lib.splitB_data ⟨#[c]⟩ 0 (Lib.countB s ⟨#[c]⟩) s
  have h2 : Lib.countB s ⟨#[c]⟩ = Lib.count s.data.toList [c] := rfl
  rw [h2] at h ⊢
  have h3 : (Lib.splitB ⟨#[c]⟩ 0 (Lib.count s.data.toList [c]) s).map (·.data.toList) = cutL c s.data.toList := h.trans (splitK_cut c _ _ (Nat.le_refl _))
  unfold cutS
  rw [← h3, List.map_map]
  conv => lhs; rw [← List.map_id (Lib.splitB _ _ _ _)]
  exact List.map_congr_left fun x _ => (strOf_data x).symm
/-- strings.Split at one byte -/
def strings_Split (s t : ByteArray) : Option (List ByteArray) := match t.data.toList with
  | [c] => if s.size < 4294967281 then some (cutS c s) else none
  | _ => none
abbrev strings_Split_S (r : List ByteArray) : Value → Heap → Prop := ownS fS 9 r
theorem strings_Split_w {w : World} {s t : ByteArray} {r : List ByteArray} (h : strings_Split s t = some r) (pg : GlobE (PH.of w)) :
    Calls Tryd.prog 26 #[.string s, .string t] w fun e w' => ∃ v L, e = .returned v ∧ strings_Split_S r v L ∧ Ret w w' L := by
  unfold strings_Split at h
  split at h
  · rename_i c hc
    split at h
    · rename_i hs
      cases h
      obtain rfl : t = ⟨#[c]⟩ := by
        cases t with
        | mk d => rw [show d = #[c] from by rw [← Array.toArray_toList (xs := d)]; simp only at hc; rw [hc]]
      obtain ⟨_, _, m, h3⟩ := pg
      have hm : w.cell? ⟨5, 0, none⟩ = some (.int .i64 m) := by rw [← Zc_of]; exact h3
      have hlen := Lib.splitB_all ⟨#[c]⟩ (Nat.le_refl 1) 0 _ s rfl
      rw [splitB_cut] at hlen
      refine (Tryd.strings_Split s ⟨#[c]⟩ m w hs hm (Nat.le_refl 1)).mono fun e w' ⟨he, hw⟩ => ?_
      rw [← hlen] at he
      rw [splitB_cut] at hw
      rw [he, hw]
      refine ⟨_, _, rfl, ⟨_, _, _, rfl, ⟨rfl, fun _ => ⟨_, rfl⟩⟩, rfl⟩, ⟨below_alloc w _, List.pairwise_singleton _ _, fun p hp => ?_⟩⟩
      simp only [List.mem_singleton] at hp
      subst hp
      have hle := Lib.countB_le ⟨#[c]⟩ (Nat.le_refl 1) _ s (Nat.le_refl _)
      refine ⟨⟨by rw [cl_length], .inr ⟨w.heap.size, _, _, rfl, Nat.zero_le _, heap_alloc_new w _, Nat.le_refl _, ?_, ?_, ?_⟩⟩, fun b hb => ?_⟩
      · have : maxLen = 9223372036854775807 := rfl
        omega
      · simp [fS]
      · have e1 : cl fS (cutS c s) = (cutS c s).map Value.string := by
          induction cutS c s with
          | nil => rfl
          | cons x l ih => simp only [cl, List.flatMap_cons, List.map_cons] at ih ⊢; rw [ih]; rfl
        rw [e1]
        have e2 : (fS : Fl ByteArray).z = 1 := rfl
        rw [e2, Nat.mul_one]
        exact List.take_of_length_le (by simp)
      · cases hb; exact Nat.le_refl _
    · cases h
  · cases h
/-- strings.Join -/
def joinS (l : List ByteArray) (t : ByteArray) : ByteArray := strOf (Lib.join (l.map (·.data.toList)) t.data.toList)
def strings_Join (l : List ByteArray) (t : ByteArray) : Option ByteArray := if l.length ≤ 140737488355328 ∧ (joinS l t).size ≤ 140737488355328 then some (joinS l t) else none
theorem strings_Join_w {w : World} {v : Value} {l : List ByteArray} {t r : ByteArray} (h : strings_Join l t = some r) (hv : SlF fS (PH.of w) v l) :
    Calls Tryd.prog 27 #[v, .string t] w fun e w' => e = .returned (.string r) ∧ Below w.heap.size w w' := by
  unfold strings_Join at h
  split at h
  · rename_i hb
    cases h
    obtain ⟨A, c, rfl, hF⟩ := hv
    by_cases h0 : 0 < l.length
    · obtain ⟨b, off, rfl, hc⟩ := hF.cell h0
      have hcell : ∀ (j : Nat) x, l[j]? = some x → w.cell? ⟨b, off + j, none⟩ = some (.string x) := fun j x hj => by
        have := hc j x hj 0 (.string x) rfl
        rw [Zc_of] at this
        rw [show off + j = off + (j * (fS : Fl ByteArray).z + 0) by simp [fS]]
        exact this
      refine (Tryd.strings_Join b off c l t w hcell ?_ hb.1 hF.le ?_).mono fun e w' ⟨he, hw⟩ => ⟨he, hw⟩
      · obtain ⟨x, hx⟩ : ∃ x, l[0]? = some x := ⟨_, List.getElem?_eq_getElem h0⟩
        have := hcell 0 x hx
        rcases Nat.lt_or_ge b w.heap.size with h | h
        · exact h
        · simp [World.cell?, Array.getElem?_eq_none h] at this
      · have := hb.2
        simpa [joinS, strOf, ByteArray.size] using this
    · obtain rfl : l = [] := List.eq_nil_of_length_eq_zero (by omega)
      exact (Tryd.strings_Join_none A c t w).mono fun e w' ⟨he, hw⟩ => ⟨he, by rw [hw]; exact Below.refl _ _⟩
  · cases h
end Go.Proofs.YthelgjfdkdaijaaDoor
