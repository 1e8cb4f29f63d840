/- The run of CatalogNames: it returns true. -/
import Derived.Test.YtnnojnlejlokhaaGreatDoorEngClosed
import Derived.Test.YtnnojnlejlokhaaGreatDoorSorts
import Derived.Test.YtnnojnlejlokhaaGreatDoorProg
import Derived.KernelRfl
import Derived.Laws.Externs
set_option linter.unusedVariables false
set_option linter.unusedSimpArgs false
namespace Go.Proofs.YtnnojnlejlokhaaGreatDoor.Eng
open Go Go.RowKit
theorem run_clone {P : Program} {f : FuncId} {fn : Func} (hf : P.funcs[f]? = some fn) (hname : (fn.name == "runtime.NumGoroutine") = false)
    (hb : fn.body.isNone = true) (hn : (Extern.findNext fn).isNone = true) (he : Extern.find fn = some Extern.MapsClone.clone) (t b : Nat) (es : Array MapEntry) (k : Nat) (w : World) (h : w.heap[b]? = some (.map es k)) :
    (callFunc f #[.iface t (.map (some b))]).run P w = .ok (.value (.iface t (.map (some w.heap.size)))) (w.alloc (.map es k)) := by
  rw [run_callFunc_extern hf hname hb (by simpa using hn) he]
  have e : Extern.MapsClone.clone #[.iface t (.map (some b))] = (getObj b >>= fun o => match o with
      | .map entries clock => newObj (.map entries clock) >>= fun r => pure (.iface t (.map (some r)))
      | _ => stuck "maps.clone: a map expected") := rfl
  rw [e]
  simp [Sem.run_bind, run_getMap h]
theorem run_same {P : Program} {f : FuncId} {fn : Func} (hf : P.funcs[f]? = some fn) (hname : (fn.name == "runtime.NumGoroutine") = false)
    (hb : fn.body.isNone = true) (hn : (Extern.findNext fn).isNone = true) (he : Extern.find fn = some Extern.AbiNoEscape.same) (v : Value) (w : World) :
    (callFunc f #[v]).run P w = .ok (.value v) w := by
  rw [run_callFunc_extern hf hname hb (by simpa using hn) he]
  rfl
def nibble : List Int := [0, 274646895, 549293790, 820201905, 1098587580, 1361435347, 1640403810, 1905808397, 2197175160, 2460548119, 2722870694, 2987750089, 3280807620, 3553878443, 3811616794, 4084100981]
def cfg : Cfg := { strs := [(38, 64, 9), (38, 69, 9)], ints := [], same := [], clone := [42], laid := [(0, nibble.map (Value.int .u32))] }
theorem cfg_ok : CfgOk Tryz.prog cfg where
  strs := fun x hx => by
    rcases List.mem_cons.1 hx with rfl | hx
    · exact ⟨Tryz.underlying9, sorted38_64⟩
    rcases List.mem_cons.1 hx with rfl | hx
    · exact ⟨Tryz.underlying9, sorted38_69⟩
    cases hx
  ints := fun x hx => by
    cases hx
  same := fun x hx => by
    cases hx
  clone := fun x hx => by
    obtain rfl := List.mem_singleton.1 hx
    exact run_clone Tryz.func42 (by kernel_rfl) (by kernel_rfl) (by kernel_rfl) (by kernel_rfl)
set_option maxRecDepth 1000000 in
theorem names_closed {w : World} (hL : LaidOk cfg w) : Calls Tryz.prog 3 #[] w fun e w' => e = .returned (.bool true) ∧ Below w.heap.size w w' :=
  closed_callK (args := []) cfg_ok (by kernel_rfl) (fuel := 1000000) (fun w => by kernel_rfl) hL
end Go.Proofs.YtnnojnlejlokhaaGreatDoor.Eng
