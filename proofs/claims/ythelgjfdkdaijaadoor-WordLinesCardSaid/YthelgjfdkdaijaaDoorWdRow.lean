/- Word: what a row's condition says of the package variables; a world that meets it. -/
import Derived.Test.YthelgjfdkdaijaaDoorCards
import Derived.Test.YthelgjfdkdaijaaDoorTie
import Derived.Test.YthelgjfdkdaijaaDoorWdAv
import Derived.ChangeSame
import Derived.ChangeVars
import Derived.JoinedOf
import Derived.LaidLaws
import Derived.LaidHandle
import Derived.Stop.Joined
import Derived.Stop.LaidErr
import Derived.Deep.DeepLaidRun
import Derived.Lib.LaidTab
import Derived.SevenTiedAt
import Derived.HandedShaped
import Derived.Shelf.Vars
import Derived.LaidLaws
namespace Go.Proofs.YthelgjfdkdaijaaDoor
open Go.RowKit Go.Qe
/-- the wrap of a row that lists variables; the world's shape is kept -/
theorem handed_and_shaped {H : Type} {enc : TypeId × Value → H} {a : Assume} {C : Checked} {os : Os} {f : FuncId} {fn : Func} {s : ChangeSpec} {conds : List PathCond} {apart fresh handsOn again : Bool} {X : World → Array Value → Prop}
    (hX : ∀ (w w' : World) (args : Array Value), w.heap = w'.heap → X w args → X w' args)
    (own : ownKnob C.prog.godebug = none) (started : os.Started) (noInit : C.prog.inits.idxOf? f = none) (hfn : C.prog.funcs[f]? = some fn)
    (witness : ∃ (w : World) (tape : Tape) (i : Input), w.os = os ∧ (w.forCall tape i).Shaped C.prog ∧ i.vars = [] ∧ Input.okWide C.prog (w.forCall tape i) .any w.heap.size f i ∧
      ((s.pre enc C.prog fn conds apart (w.forCall tape i).memory i.args ∧ X (w.forCall tape i).memory i.args) ∧ sizedMet enc C.prog fn (OpenSpec.ofChange s) apart (w.forCall tape i).memory i.args) ∧ a.holds C.prog (lone (Frame.enter C.prog f i.args .normal) [] (w.forCall tape i)))
    (contract : ∀ (W : World) (base : Nat) (args : Array Value) (ds gs : List (DataW H)) (before : List MemPlace),
      (∀ (j : Nat) t v, fn.params[j]? = some t → args[j]? = some v → Value.okWide C.prog W .any base t v) →
      DataW.Whole enc C.prog fn.params.toList s.vars apart W args.toList ds gs before →
      conds.all (PathCond.test C.prog ⟨fn.params.toList, ds, s.plain.varTypes C.prog, gs⟩) = true →
      (DataW.weightsEach C.prog (fn.params.toList ++ s.plain.varTypes C.prog) (ds ++ gs)).all (· ≤ reachBytes) = true → X W args → W.ShapedOpen C.prog →
      a.holds C.prog (lone (Frame.enter C.prog f args .normal) [] W) →
      Calls C.prog f args W fun e W' => ∃ v, e = .returned v ∧ s.post enc C.prog fn apart fresh handsOn again W args v W') :
    ReturnsInHanded a C os f .any (fun w args => (s.pre enc C.prog fn conds apart w args ∧ X w args) ∧ sizedMet enc C.prog fn (OpenSpec.ofChange s) apart w args) (s.post enc C.prog fn apart fresh handsOn again) := by
  refine returnsInHanded_of_calls own started noInit witness ?_
  intro w tape i _ hsh _ hok hpre hholds
  obtain ⟨_, _, _, fn', hfn', _, _, _, _, hval⟩ := hok
  have e : fn' = fn := Option.some.inj (hfn'.symm.trans hfn)
  subst e
  obtain ⟨⟨⟨ds, gs, before, hw, hc⟩, hx⟩, hz⟩ := hpre
  have hw' := DataW.Whole.of_heap (w' := w.forCall tape i) (by rfl) hw
  refine (contract (w.forCall tape i) w.heap.size i.args ds gs before hval hw' hc (hz.weights hw) (hX _ _ _ (by rfl) hx) hsh hholds).mono fun e W' ⟨v, he, hp⟩ => ?_
  subst he
  exact ChangeSpec.post_blind hp
abbrev laidL : List (String × DataW Unit) := [("math/bits.deBruijn32tab", Rows.laid_math_bits_deBruijn32tab), ("math/bits.deBruijn64tab", Rows.laid_math_bits_deBruijn64tab), ("internal/strconv.uint64pow10", Rows.laid_internal_strconv_uint64pow10), ("unicode/utf8.acceptRanges", Rows.laid_unicode_utf8_acceptRanges), ("strconv.ErrRange", Rows.laid_strconv_ErrRange), ("strconv.ErrSyntax", Rows.laid_strconv_ErrSyntax), ("unicode/utf8.first", Rows.laid_unicode_utf8_first)]
theorem g_tab : Tryd.prog.globalNamed "internal/strconv.uint64pow10" = some 0 := by kernel_rfl
theorem g_rng : Tryd.prog.globalNamed "strconv.ErrRange" = some 2 := by kernel_rfl
theorem t_tab : (Tryd.prog.globals[0]?).map (·.type) = some 86 := by kernel_rfl
theorem t_rng : (Tryd.prog.globals[2]?).map (·.type) = some 48 := by kernel_rfl
theorem d_tab : (Rows.laid_internal_strconv_uint64pow10 : DataW Unit) = Lib.tabData .u64 Lib.pow10Tab := by kernel_rfl
theorem c_tab : Tryd.prog.cellsOf 86 = 20 := by kernel_rfl
theorem c_u64 : Tryd.prog.cellsOf 70 = 1 := by kernel_rfl
theorem c_es : Tryd.prog.cellsOf 108 = 1 := by kernel_rfl
theorem c_str : Tryd.prog.cellsOf 9 = 1 := by kernel_rfl
theorem star : "*" ++ "errors.errorString" = "*errors.errorString" := by decide
theorem row_es (u : TypeId) (h : Tryd.prog.typeName? 3 u = some "*errors.errorString") : u = 106 :=
  typeName_ptr_named (nm := "errors.errorString") (by rw [star]; kernel_rfl) (by kernel_rfl) (by decide) u (by rw [star]; exact h)
theorem glob_of {W : World} (h : laidMetH Tryd.prog laidL W) (hs : W.ShapedOpen Tryd.prog) : GlobE (PH.of W) := by
  have h' : laidMet Tryd.prog laidL W := h
  have h2 : laidMet Tryd.prog (("internal/strconv.uint64pow10", Lib.tabData .u64 Lib.pow10Tab) :: _) W := d_tab ▸ h'.tail.tail
  have ht := Lib.tabIs_of_head g_tab t_tab Tryd.underlying86 Tryd.underlying70 c_u64 c_tab h2
  obtain ⟨a0, s0, hv0, -, -, -⟩ := laid_sentinel h'.tail.tail.tail.tail g_rng t_rng Tryd.underlying48 row_es Tryd.underlying106 Tryd.underlying108 rfl rfl Tryd.underlying9 c_es c_str
  obtain ⟨m, hm⟩ := cell_of_shapedOpen_int (zero := #[.int .i64 0]) (t := 3) hs (g := 5) (of_decide_eq_true (by kernel_rfl)) (by kernel_rfl) rfl (by kernel_rfl) (by kernel_rfl) Tryd.underlying3
  refine ⟨?_, ⟨_, _, by rw [Zc_of]; have h0 := World.var?_cell g_rng hv0 0; simpa using h0⟩, m, by rw [Zc_of]; exact hm⟩
  simp only [Lib.TabIs, World.var?, g_tab, Option.bind_some] at ht
  split at ht
  · rename_i cs t fr hh
    have e := Option.some.inj ht
    subst e
    exact ⟨t, fr, hh⟩
  · cases ht
/-- a table's cells -/
def lits : DataW Unit → List Value
  | .agg xs => xs.flatMap fun
    | .lit (.int k z) => [.int k z]
    | .agg ys => ys.map fun
      | .lit (.int k z) => .int k z
      | _ => .nilIface
    | _ => []
  | _ => []
abbrev synS : ByteArray := { data := #[105, 110, 118, 97, 108, 105, 100, 32, 115, 121, 110, 116, 97, 120] }
abbrev rngS : ByteArray := { data := #[118, 97, 108, 117, 101, 32, 111, 117, 116, 32, 111, 102, 32, 114, 97, 110, 103, 101] }
noncomputable def low : Nat := (World.holding Tryd.prog default ⟨#[], #[], []⟩).heap.size
noncomputable def setC (h : Array Obj) (g : Nat) (cs : Array Value) : Array Obj := h.modify g fun
  | .cells _ t frozen => .cells cs t frozen
  | o => o
noncomputable def laidWorld (os : Os) : World :=
  let w0 := World.holding Tryd.prog os ⟨#[.cells #[.string synS] 108, .cells #[.string rngS] 108], #[], []⟩
  { w0 with heap := setC (setC (setC (setC (setC (setC (setC w0.heap
      6 (lits Rows.laid_math_bits_deBruijn32tab).toArray) 7 (lits Rows.laid_math_bits_deBruijn64tab).toArray) 0 (lits Rows.laid_internal_strconv_uint64pow10).toArray)
      4 (lits Rows.laid_unicode_utf8_acceptRanges).toArray) 3 (lits Rows.laid_unicode_utf8_first).toArray)
      1 #[.iface 106 (.pointer (some ⟨low, 0, none⟩))]) 2 #[.iface 106 (.pointer (some ⟨low + 1, 0, none⟩))] }
set_option maxRecDepth 100000 in
theorem laidWorld_met (os : Os) (args : Array Value) : laidMetH Tryd.prog laidL ((laidWorld os).forCall (fun _ _ => 0) ⟨#[], args, []⟩).memory :=
  have h : laidMet Tryd.prog laidL ((laidWorld os).forCall (fun _ _ => 0) ⟨#[], args, []⟩).memory := laidMet_of_run3 8 (by kernel_rfl) (by kernel_rfl) (by kernel_rfl)
  h
end Go.Proofs.YthelgjfdkdaijaaDoor
