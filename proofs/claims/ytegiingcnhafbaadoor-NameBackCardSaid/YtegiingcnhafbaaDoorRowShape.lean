/- The wrap for a row that lists variables with their content, and hands the walk the world's shape. -/
import Derived.Handed
namespace Go.Proofs.YtegiingcnhafbaaDoor
open Go

theorem handed_shape {H : Type} {enc : TypeId × Value → H} {C : Checked} {os : Os} {f : FuncId} {fn : Func} {s : ChangeSpec} {apart fresh handsOn again : Bool} {X : World → Array Value → Prop}
    (hX : ∀ (w w' : World) (args : Array Value), w.heap = w'.heap → X w args → X w' args)
    (own : ownKnob C.prog.godebug = none) (started : os.Started) (noInit : C.prog.inits.idxOf? f = none) (hfn : C.prog.funcs[f]? = some fn)
    (witness : ∃ (w : World) (tape : Tape) (i : Input), w.os = os ∧ (w.forCall tape i).Shaped C.prog ∧ i.vars = [] ∧ Input.okWide C.prog (w.forCall tape i) .any w.heap.size f i ∧
      ((s.pre enc C.prog fn [] apart (w.forCall tape i).memory i.args ∧ X (w.forCall tape i).memory i.args) ∧ sizedMet enc C.prog fn (OpenSpec.ofChange s) apart (w.forCall tape i).memory i.args) ∧ ({} : Assume).holds C.prog (lone (Frame.enter C.prog f i.args .normal) [] (w.forCall tape i)))
    (walk : ∀ (W : World) (base : Nat) (args : Array Value) (ds gs : List (DataW H)) (before : List MemPlace),
      (∀ (j : Nat) t v, fn.params[j]? = some t → args[j]? = some v → Value.okWide C.prog W .any base t v) →
      DataW.Whole enc C.prog fn.params.toList s.vars apart W args.toList ds gs before → X W args → W.ShapedOpen C.prog →
      Calls C.prog f args W fun e W' => ∃ v, e = .returned v ∧ s.post enc C.prog fn apart fresh handsOn again W args v W') :
    ReturnsInHanded {} C os f .any (fun w args => (s.pre enc C.prog fn [] apart w args ∧ X w args) ∧ sizedMet enc C.prog fn (OpenSpec.ofChange s) apart w args) (s.post enc C.prog fn apart fresh handsOn again) := by
  refine returnsInHanded_of_calls own started noInit witness (fun w tape i _ shape _ ok pre _ => ?_)
  obtain ⟨_, _, _, fn2, h2, _, _, _, _, values⟩ := ok
  obtain rfl : fn2 = fn := Option.some.inj (h2.symm.trans hfn)
  obtain ⟨⟨⟨ds, gs, before, whole, _⟩, x⟩, _⟩ := pre
  have went := walk (w.forCall tape i) w.heap.size i.args ds gs before values (DataW.Whole.of_heap (w' := w.forCall tape i) (by rfl) whole) (hX _ _ _ (by rfl) x) shape
  exact went.mono fun e W' ⟨v, hv, hp⟩ => by subst hv; exact ChangeSpec.post_blind hp
end Go.Proofs.YtegiingcnhafbaaDoor
