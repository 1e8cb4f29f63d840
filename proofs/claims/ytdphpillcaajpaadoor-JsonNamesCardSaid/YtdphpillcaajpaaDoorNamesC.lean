/- The run of JsonNames: it returns true. -/
import Derived.Test.YtdphpillcaajpaaDoorEngDefer
import Derived.Test.YtdphpillcaajpaaDoorProg
import Derived.KernelRfl
import Derived.Laws.Externs
set_option linter.unusedVariables false
set_option linter.unusedSimpArgs false
namespace Go.Proofs.YtdphpillcaajpaaDoor.Eng
open Go Go.RowKit
theorem run_clone {P : Program} {f : FuncId} {fn : Func} (hf : P.funcs[f]? = some fn) (hname : (fn.name == "runtime.NumGoroutine") = false)
    (hb : fn.body.isNone = true) (hn : (Extern.findNext fn).isNone = true) (he : Extern.find fn = some Extern.MapsClone.clone) (t b : Nat) (es : Array MapEntry) (k : Nat) (w : World) (h : w.heap[b]? = some (.map es k)) :
    (callFunc f #[.iface t (.map (some b))]).run P w = .ok (.value (.iface t (.map (some w.heap.size)))) (w.alloc (.map es k)) := by
  rw [run_callFunc_extern hf hname hb (by simpa using hn) he]
  have e : Extern.MapsClone.clone #[.iface t (.map (some b))] = (getObj b >>= fun o => match o with
      | .map entries clock => newObj (.map entries clock) >>= fun r => pure (.iface t (.map (some r)))
      | _ => stuck "maps.clone: a map expected") := rfl
  rw [e]
  simp [Sem.run_bind, run_getMap h]
theorem run_same {P : Program} {f : FuncId} {fn : Func} (hf : P.funcs[f]? = some fn) (hname : (fn.name == "runtime.NumGoroutine") = false)
    (hb : fn.body.isNone = true) (hn : (Extern.findNext fn).isNone = true) (he : Extern.find fn = some Extern.AbiNoEscape.same) (v : Value) (w : World) :
    (callFunc f #[v]).run P w = .ok (.value v) w := by
  rw [run_callFunc_extern hf hname hb (by simpa using hn) he]
  rfl
def nibble : List Int := [0, 274646895, 549293790, 820201905, 1098587580, 1361435347, 1640403810, 1905808397, 2197175160, 2460548119, 2722870694, 2987750089, 3280807620, 3553878443, 3811616794, 4084100981]
def pows : List Int := [1, 10, 100, 1000, 10000, 100000, 1000000, 10000000, 100000000, 1000000000, 10000000000, 100000000000, 1000000000000, 10000000000000, 100000000000000, 1000000000000000, 10000000000000000, 100000000000000000, 1000000000000000000, 10000000000000000000]
def firsts : List Int := [240, 240, 240, 240, 240, 240, 240, 240, 240, 240, 240, 240, 240, 240, 240, 240, 240, 240, 240, 240, 240, 240, 240, 240, 240, 240, 240, 240, 240, 240, 240, 240, 240, 240, 240, 240, 240, 240, 240, 240, 240, 240, 240, 240, 240, 240, 240, 240, 240, 240, 240, 240, 240, 240, 240, 240, 240, 240, 240, 240, 240, 240, 240, 240, 240, 240, 240, 240, 240, 240, 240, 240, 240, 240, 240, 240, 240, 240, 240, 240, 240, 240, 240, 240, 240, 240, 240, 240, 240, 240, 240, 240, 240, 240, 240, 240, 240, 240, 240, 240, 240, 240, 240, 240, 240, 240, 240, 240, 240, 240, 240, 240, 240, 240, 240, 240, 240, 240, 240, 240, 240, 240, 240, 240, 240, 240, 240, 240, 241, 241, 241, 241, 241, 241, 241, 241, 241, 241, 241, 241, 241, 241, 241, 241, 241, 241, 241, 241, 241, 241, 241, 241, 241, 241, 241, 241, 241, 241, 241, 241, 241, 241, 241, 241, 241, 241, 241, 241, 241, 241, 241, 241, 241, 241, 241, 241, 241, 241, 241, 241, 241, 241, 241, 241, 241, 241, 241, 241, 241, 241, 241, 241, 241, 241, 2, 2, 2, 2, 2, 2, 2, 2, 2, 2, 2, 2, 2, 2, 2, 2, 2, 2, 2, 2, 2, 2, 2, 2, 2, 2, 2, 2, 2, 2, 19, 3, 3, 3, 3, 3, 3, 3, 3, 3, 3, 3, 3, 35, 3, 3, 52, 4, 4, 4, 68, 241, 241, 241, 241, 241, 241, 241, 241, 241, 241, 241]
def accepts : List (Int × Int) := [(128, 191), (160, 191), (128, 159), (144, 191), (128, 143), (0, 0), (0, 0), (0, 0), (0, 0), (0, 0), (0, 0), (0, 0), (0, 0), (0, 0), (0, 0), (0, 0)]
def cfg : Cfg := { strs := [], ints := [], same := [75], clone := [], laid := [(5, pows.map (Value.int .u64)), (2, firsts.map (Value.int .u8)), (3, accepts.flatMap fun x => [Value.int .u8 x.1, .int .u8 x.2])] }
theorem cfg_ok : CfgOk Tryd.prog cfg where
  strs := fun x hx => by
    cases hx
  ints := fun x hx => by
    cases hx
  same := fun x hx => by
    obtain rfl := List.mem_singleton.1 hx
    exact run_same Tryd.func75 (by kernel_rfl) (by kernel_rfl) (by kernel_rfl) (by kernel_rfl)
  clone := fun x hx => by
    cases hx
/-- The deferred closure does nothing where the function returns. -/
theorem idle : Idle Tryd.prog 24 2 := by
  intro vs w hvs
  obtain ⟨l⟩ := vs
  match l, hvs with
  | [x, y], _ =>
    refine callsD_of_wpS Tryd.func24 rfl fun c₀ cs hu => ?_
    apply wpS_seq
    apply wpS_region
    simp [wpOpsS, go_sem, recoverD, hu, Tryd.ntmps24, Exit.thenS]
    apply wpS_seq
    apply wpS_region
    simp [wpOpsS, go_sem, recoverD, hu, Tryd.ntmps24, Exit.thenS]
    refine wpS_cond (t := false) (by simp [Act.eval, Array.replicate]) ?_
    simp only [Bool.false_eq_true, if_false]
    refine wpS_of_wp (wp_skip ?_)
    cases c₀
    simp_all [bodyPostS, results, Tryd.results24]
set_option maxRecDepth 1000000 in
theorem names_closed {w : World} (hL : LaidOk cfg w) : Calls Tryd.prog 3 #[] w fun e w' => e = .returned (.bool true) ∧ Below w.heap.size w w' :=
  closed_callD (fP := 11) (g := 24) (m := 2) (fuel' := 1000000) (args := []) cfg_ok (by kernel_rfl) (fun args w => run_callFunc Tryd.func24 (by kernel_rfl) args w) idle (fuel := 1000000) (fun w => by kernel_rfl) hL
end Go.Proofs.YtdphpillcaajpaaDoor.Eng
