/- maps.Clone: a new map with the old entries. -/
import Derived.Test.YtonllhjmoenckaaProg
import Derived.WalkKit
import Derived.Below
import Derived.Laws.Externs
import Derived.MapKept
import Derived.Maps.Own
import Derived.Lib.Hide
namespace Go.Proofs.Ytonllhjmoenckaa
open Go Go.RowKit
set_option linter.unusedVariables false
set_option linter.unusedSimpArgs false
theorem run_equal_mnil0 {P : Program} (w : World) {t k e : TypeId} (b : Nat) (h : P.underlying t = some (.map k e)) : (Op.equal t (.map (some b)) (.map none)).run P w = .ok false w := by
  have : ∀ d : Nat, (Op.equalIn (d + 1) t (.map (some b)) (.map none)).run P w = .ok false w := fun d => by simp [Op.equalIn, run_underlying h]
  exact this 9999
theorem mcl_q (b : Nat) (w : World) : (binOp .eql 125 (.map (some b)) (.map none)).run Try.prog w = .ok (.bool false) w := by
  simp only [binOp, Sem.run_bind, run_equal_mnil0 w b Try.underlying125, Result.andThen_ok, Sem.run_pure, Sem.run_map]
theorem mcl_x {b : Nat} {es : Array MapEntry} {clock : Nat} {w : World} (hb : w.heap[b]? = some (.map es clock)) (t : TypeId) : (Extern.MapsClone.clone #[.iface t (.map (some b))]).run Try.prog w = .ok (.iface t (.map (some w.heap.size))) (w.alloc (.map es clock)) := by
  have e : Extern.MapsClone.clone #[.iface t (.map (some b))] = (getObj b >>= fun o => match o with
      | .map entries clock => (newObj (.map entries clock) >>= fun n => pure (.iface t (.map (some n))))
      | _ => stuck "maps.clone: a map expected") := rfl
  rw [e]
  simp [MapKept.run_getObj_map hb, Result.andThen, go_sem]
theorem mcl_t (xT : TypeId) (v : Value) (w : World) : (Instr.typeAssert (.iface 125 v) xT 125 false).run Try.prog w = .ok v w := by
  simp [Instr.typeAssert, run_underlying Try.underlying125, go_sem, Result.andThen]
set_option maxRecDepth 100000 in
theorem mclone_c (b : Nat) (es : Array MapEntry) (clock : Nat) (w : World) (hb : w.heap[b]? = some (.map es clock)) :
    Calls Try.prog 88 #[.map (some b)] w fun e w' => e = .returned (.map (some w.heap.size)) ∧ w' = w.alloc (.map es clock) := by
  have HB := Lib.hid hb
  clear hb
  have hq := mcl_q b
  go_enter Try.func88, Try.ntmps88
  go_wp2
  rw [run_callFunc_extern Try.func106 (by kernel_rfl) (by kernel_rfl) (by kernel_rfl) (e := Extern.MapsClone.clone) (by kernel_rfl), mcl_x HB.out]
  simp only [Result.andThen]
  rw [Oper.upon_value]
  go_wp2
  rw [mcl_t]
  simp only [Result.andThen]
  rw [Oper.upon_value]
  go_wp2
  go_ret
  exact ⟨rfl, rfl⟩
end Go.Proofs.Ytonllhjmoenckaa
