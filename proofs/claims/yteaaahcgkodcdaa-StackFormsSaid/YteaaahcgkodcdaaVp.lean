/- StackForms: the walk. -/
import Derived.Test.YteaaahcgkodcdaaVo
import Derived.Great.Walk
namespace Go.Proofs.Yteaaahcgkodcdaa.Ev
open Go Go.RowKit Go.Great

theorem wp_act_eq {P : Program} {c : Code} {Q : Exit → Act → World → Prop} {a a' : Act} {w : World} (h : a = a') (hw : c.wp P Q a' w) : c.wp P Q a w := h ▸ hw

def second : Code → Code
  | .seq _ b => b
  | c => c
noncomputable def formsRest : Code := second (second (Try.f9.body.getD .skip))

/-- the frame behind the first two statements -/
def formsAt (kind : Int) (low : Bool) (q k : Int) : List Value :=
  [.int .i64 kind, .bool low, undef, undef, .bool false, .int .i64 k, undef, undef, undef, .int .i64 kind, .int .i64 q, .int .i64 k] ++ List.replicate 38 undef

theorem forms (kind : Int) (low : Bool) (q k : Int) (hq : ∀ w, (Op.intBits .and .i64 kind 65535).run Try.prog w = .ok (.int .i64 q) w) (hk : ∀ w, (Op.intDiv .rem .i64 q 9).run Try.prog w = .ok (.int .i64 k) w) (w : World)
    (hrest : endsTrue 4 (ob (frame ((formsAt kind low q k).map .raw) 0 .leaf) fun tm => ev Try.prog kn 100000 (.code 0 50 formsRest tm ⟨.leaf, 0⟩)) = true) :
    Calls Try.prog 9 #[.int .i64 kind, .bool low] w fun e w' => e = .returned (.bool true) ∧ Below w.heap.size w w' := by
  go_enter Try.func9, Try.ntmps9
  apply wp_seq_k; intro K1 hK1
  apply wp_region_lit
  refine wpList_readTo rfl (some 4) rfl (.bool false) (by kernel_rfl) ?_
  apply wpList_nil
  refine hK1 _ _ ?_
  clear hK1 K1
  apply wp_seq_k; intro K2 hK2
  apply wp_region_lit
  refine wpList_readTo rfl (some 9) rfl (.int .i64 kind) (by kernel_rfl) ?_
  refine wpList_readTo rfl (some 10) rfl (.int .i64 q) (valued (by show (do eqGuard .and 3 _ _ (.int .i64 kind) (.int .i64 65535); Op.intBits .and .i64 kind 65535 : Sem Value).run _ _ = _; simp [eqGuard, hq])) ?_
  refine wpList_readTo rfl (some 11) rfl (.int .i64 k) (valued (by show (do eqGuard .rem 3 _ _ (.int .i64 q) (.int .i64 9); Op.intDiv .rem .i64 q 9 : Sem Value).run _ _ = _; simp [eqGuard, hk])) ?_
  refine wpList_readTo rfl (some 5) rfl (.int .i64 k) (by kernel_rfl) ?_
  apply wpList_nil
  refine hK2 _ _ ?_
  clear hK2 K2
  refine wp_act_eq (a' := { tmps := (formsAt kind low q k).toArray, defers := [] }) (by kernel_rfl) ?_
  exact rest_true mix (plainly_of plain_names) kn_ok 100000 Try.f9 4 rfl (c := formsRest) (vs := formsAt kind low q k) hrest (Below.refl _ _)
end Go.Proofs.Yteaaahcgkodcdaa.Ev
