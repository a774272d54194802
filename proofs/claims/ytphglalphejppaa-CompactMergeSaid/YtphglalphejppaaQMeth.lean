/- Methods of the queue through the interface. No condition. -/
import Derived.Test.YtphglalphejppaaQPop
import Derived.Shelf.Abstract
namespace Go.Proofs.Ytphglalphejppaa
open Go.RowKit
set_option linter.unusedVariables false
set_option linter.unusedSimpArgs false

noncomputable def qMeth (nm : String) : Option (Option (List FieldStep × Option (FuncId × Bool))) := (Try.prog.info? 71).map (fun i => (i.methods.find? (·.name == nm)).map (fun m => (m.path.toList, m.func)))
theorem q_less : qMeth "Less" = some (some ([], some (108, false))) := by kernel_rfl
theorem q_swap : qMeth "Swap" = some (some ([], some (111, false))) := by kernel_rfl
theorem q_len : qMeth "Len" = some (some ([], some (34, false))) := by kernel_rfl
theorem q_push : qMeth "Push" = some (some ([], some (110, true))) := by kernel_rfl
theorem q_pop : qMeth "Pop" = some (some ([], some (109, true))) := by kernel_rfl
theorem qMeth_parts {nm : String} {f : FuncId} {b : Bool} (h : qMeth nm = some (some ([], some (f, b)))) : ∃ i m, Try.prog.info? 71 = some i ∧ i.methods.find? (·.name == nm) = some m ∧ m.path.toList = [] ∧ m.func = some (f, b) := by
  unfold qMeth at h
  cases hi : Try.prog.info? 71 with
  | none => rw [hi] at h; cases h
  | some i =>
    rw [hi] at h
    cases hm : i.methods.find? (·.name == nm) with
    | none => simp [hm] at h
    | some m => simp [hm] at h; exact ⟨i, m, rfl, hm, by simpa using h.1, h.2⟩
theorem fuel_succ : ∃ k, Try.prog.types.size + Made.depth = k + 1 := by
  have : 0 < Made.depth := by decide
  exact ⟨Try.prog.types.size + Made.depth - 1, by omega⟩
theorem run_meth_ptr {nm : String} {f : FuncId} (h : qMeth nm = some (some ([], some (f, true)))) (gq : Nat) (args : Array Value) (w : World) (eg : ∀ args w, (callFunc f args).run Try.prog w = .ok (.enter f args) w) :
    (callMethod (.iface 71 (.pointer (some ⟨gq, 0, none⟩))) nm args).run Try.prog w = .ok (.enter f (#[.pointer (some ⟨gq, 0, none⟩)] ++ args)) w := by
  obtain ⟨i, m, h1, h2, h3, h4⟩ := qMeth_parts h
  obtain ⟨k, hk⟩ := fuel_succ
  have hu := Try.underlying71
  have ht : (typeInfo 71).run Try.prog w = .ok i w := by simp [typeInfo, h1, Sem.run_bind, go_sem]
  unfold callMethod
  simp only [Sem.run_bind, run_program, Result.andThen_ok]
  rw [hk]
  unfold method
  simp only [Sem.run_bind, ht, Result.andThen_ok, h2, h3, h4, follow, Sem.run_pure, receiverAt, run_underlying hu, Place.get, eg]
theorem run_wrap (ts : Array TypeId) (t : TypeId) (a : Addr) (s1 s2 : String) (w : World) : (Builtin.ssaWrapNilChk_ ts t #[.pointer (some a), strVal s1, strVal s2]).run Try.prog w = .ok (.pointer (some a)) w := rfl
theorem run_meth_val {nm : String} {f : FuncId} (h : qMeth nm = some (some ([], some (f, false)))) (gq : Nat) (v : Value) (hv : ∃ A l c, v = .slice A l c) (args : Array Value) (w : World) (hc : w.cell? ⟨gq, 0, none⟩ = some v) (eg : ∀ args w, (callFunc f args).run Try.prog w = .ok (.enter f args) w) :
    (callMethod (.iface 71 (.pointer (some ⟨gq, 0, none⟩))) nm args).run Try.prog w = .ok (.enter f (#[v] ++ args)) w := by
  obtain ⟨i, m, h1, h2, h3, h4⟩ := qMeth_parts h
  obtain ⟨k, hk⟩ := fuel_succ
  have hu := Try.underlying71
  have ht : (typeInfo 71).run Try.prog w = .ok i w := by simp [typeInfo, h1, Sem.run_bind, go_sem]
  have hl : (loadVar 73 ⟨gq, 0, none⟩).run Try.prog w = .ok v w := by
    obtain ⟨A, l, c, rfl⟩ := hv
    have hu2 := Try.underlying73
    simp [loadVar, go_sem, hc]
  unfold callMethod
  simp only [Sem.run_bind, run_program, Result.andThen_ok]
  rw [hk]
  unfold method
  simp only [Sem.run_bind, ht, Result.andThen_ok, h2, h3, h4, follow, Sem.run_pure, receiverAt, run_underlying hu, Place.get]
  have hp : m.path.isEmpty = true := by cases hm : m.path with | mk l => rw [hm] at h3; simp at h3; subst h3; rfl
  simp only [hp, if_true, Sem.run_bind, run_wrap, Result.andThen_ok]
  simp [asAddr, hl, eg]
/-- what the walk meets: the method looked up (263: the depth that the walk reckons) -/
theorem meth_ptr {nm : String} {f : FuncId} (h : qMeth nm = some (some ([], some (f, true)))) (gq k : Nat) (w : World) :
    (method (k + 1) 71 (.pointer (some ⟨gq, 0, none⟩)) nm).run Try.prog w = .ok (f, .pointer (some ⟨gq, 0, none⟩)) w := by
  obtain ⟨i, m, h1, h2, h3, h4⟩ := qMeth_parts h
  have hu := Try.underlying71
  have ht : (typeInfo 71).run Try.prog w = .ok i w := by simp [typeInfo, h1, Sem.run_bind, go_sem]
  unfold method
  simp only [Sem.run_bind, ht, Result.andThen_ok, h2, h3, h4, follow, Sem.run_pure, receiverAt, run_underlying hu, Place.get]
theorem meth_val {nm : String} {f : FuncId} (h : qMeth nm = some (some ([], some (f, false)))) (gq k : Nat) (v : Value) (hv : ∃ A l c, v = .slice A l c) (w : World) (hc : w.cell? ⟨gq, 0, none⟩ = some v) :
    (method (k + 1) 71 (.pointer (some ⟨gq, 0, none⟩)) nm).run Try.prog w = .ok (f, v) w := by
  obtain ⟨i, m, h1, h2, h3, h4⟩ := qMeth_parts h
  have hu := Try.underlying71
  have ht : (typeInfo 71).run Try.prog w = .ok i w := by simp [typeInfo, h1, Sem.run_bind, go_sem]
  have hl : (loadVar 73 ⟨gq, 0, none⟩).run Try.prog w = .ok v w := by
    obtain ⟨A, l, c, rfl⟩ := hv
    have hu2 := Try.underlying73
    simp [loadVar, go_sem, hc]
  unfold method
  simp only [Sem.run_bind, ht, Result.andThen_ok, h2, h3, h4, follow, Sem.run_pure, receiverAt, run_underlying hu, Place.get]
  have hp : m.path.isEmpty = true := by cases hm : m.path with | mk l => rw [hm] at h3; simp at h3; subst h3; rfl
  simp only [hp, if_true, Sem.run_bind, run_wrap, Result.andThen_ok]
  simp [asAddr, hl]
end Go.Proofs.Ytphglalphejppaa
