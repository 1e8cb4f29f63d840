/- The walks of policy.number, text, set and Args. -/
import Derived.Test.YtfledabgdcnkfaaMergeWalk
set_option linter.unusedVariables false
set_option linter.unusedSimpArgs false
namespace Go.Proofs.Ytfledabgdcnkfaa
open Go.RowKit
namespace Pol
theorem tiI64 : TI Try.prog 2 (.int .i64 0) 1 8 := by unfold TI; kernel_rfl

theorem num_bad {v : Val} {a b : Int} (h1 : ¬ v.kind = 98) (h2 : ¬ v.kind = 115) (h3 : ¬ v.kind = 73) (h4 : ¬ v.kind = 108) : numCode v a b = 30 := by
  unfold numCode; rw [if_neg (by simp [h1, h2, h3, h4])]
theorem num_out {v : Val} {a b : Int} (h : v.kind = 98 ∨ v.kind = 115 ∨ v.kind = 73 ∨ v.kind = 108) (ho : v.num < a ∨ b < v.num) : numCode v a b = 32 := by
  unfold numCode; rw [if_pos h, if_pos ho]
theorem num_ok {v : Val} {a b : Int} (h : v.kind = 98 ∨ v.kind = 115 ∨ v.kind = 73 ∨ v.kind = 108) (h1 : a ≤ v.num) (h2 : v.num ≤ b) : numCode v a b = 0 := by
  unfold numCode; rw [if_pos h, if_neg (by omega)]

def KOk (v : Val) : Prop := v.kind = 98 ∨ v.kind = 115 ∨ v.kind = 73 ∨ v.kind = 108
theorem k98 {v : Val} (h : (v.kind == 98) = true) : KOk v := .inl (beq_iff_eq.1 h)
theorem k115 {v : Val} (h : (v.kind == 115) = true) : KOk v := .inr (.inl (beq_iff_eq.1 h))
theorem k73 {v : Val} (h : (v.kind == 73) = true) : KOk v := .inr (.inr (.inl (beq_iff_eq.1 h)))
theorem k108 {v : Val} (h : (v.kind == 108) = true) : KOk v := .inr (.inr (.inr (beq_iff_eq.1 h)))
theorem kno {v : Val} {x : Int} (h : (v.kind == x) = false) : ¬ v.kind = x := fun e => by simp [e] at h
def NumPost (W0 : World) (t : List HP) (bc j : Nat) (c : Array Value) (e : TypeId) (code : Int) (x : Value) (en : Ending) (w' : World) : Prop :=
  en = .returned (.int .i64 code) ∧ Sat W0 (HP.pts bc (.cells (if code = 0 then c.setIfInBounds j x else c) e (0, 0)) :: t) w'
theorem numPost_no {W0 : World} {t : List HP} {bc j : Nat} {c : Array Value} {e : TypeId} {code k : Int} {x : Value} {w' : World} (hk : code = k) (h0 : k ≠ 0) (hs : Sat W0 (HP.pts bc (.cells c e (0, 0)) :: t) w') : NumPost W0 t bc j c e code x (.returned (.int .i64 k)) w' := by
  subst hk
  exact ⟨rfl, by rw [if_neg h0]; exact hs⟩
theorem numPost_yes {W0 : World} {t : List HP} {bc j : Nat} {c : Array Value} {e : TypeId} {code : Int} {x : Value} {w' : World} (hk : code = 0) (hs : Sat W0 (HP.pts bc (.cells (c.setIfInBounds j x) e (0, 0)) :: t) w') : NumPost W0 t bc j c e code x (.returned (.int .i64 0)) w' := by
  subst hk
  exact ⟨rfl, by rw [if_pos rfl]; exact hs⟩

set_option maxHeartbeats 1000000 in
theorem number_calls (W0 : World) (t : List HP) (bc j : Nat) (c : Array Value) (e : TypeId) (v : Val) (least most : Int) (w : World) (hs : Sat W0 (HP.pts bc (.cells c e (0, 0)) :: t) w) (hj : j < c.size) :
    Calls Try.prog 29 #[.pointer (some ⟨bc, j, none⟩), .agg v.cells.toArray, .int .i64 least, .int .i64 most] w (NumPost W0 t bc j c e (numCode v least most) (.int .i64 v.num)) := by
  go_enter Try.func29, Try.ntmps29
  go_wp2_with (first
    | ((with_reducible refine wpl_box _ _ ?_ ?_); rfl; intro K hK; refine wp_box_sat hs _ _ (.agg v.cells.toArray) rfl rfl ?_; intro B wB hs1; have c0 : wB.cell? ⟨B, 0, none⟩ = some (.int .i64 v.kind) := hs1.cell 0 rfl 0 rfl; have c1 : wB.cell? ⟨B, 1, none⟩ = some (.int .i64 v.num) := hs1.cell 0 rfl 1 rfl; refine hK _ _ ?_; clear hK K)
    | ((with_reducible refine wpl_store _ _ _ ?_ ?_); rfl; intro K hK; refine wp_store_one hs1 1 _ _ _ rfl _ _ tiInt bc j _ _ rfl rfl (.int _ _) rfl hj rfl ?_; intro w2 hs2; refine hK _ _ ?_; clear hK K))
  all_goals go_ret
  all_goals first
    | (refine numPost_no (k := 30) ?_ (by decide) hs1.drop; exact num_bad (kno (by assumption)) (kno (by assumption)) (kno (by assumption)) (kno (by assumption)))
    | (refine numPost_no (k := 32) ?_ (by decide) hs1.drop; exact num_out (by first | exact k98 (by assumption) | exact k115 (by assumption) | exact k73 (by assumption) | exact k108 (by assumption)) (by omega))
    | (refine numPost_yes ?_ hs2.drop; exact num_ok (by first | exact k98 (by assumption) | exact k115 (by assumption) | exact k73 (by assumption) | exact k108 (by assumption)) (by omega) (by omega))

def TextPost (W0 : World) (t : List HP) (bc j j' : Nat) (c : Array Value) (e : TypeId) (code : Int) (x : Value) (en : Ending) (w' : World) : Prop :=
  en = .returned (.int .i64 code) ∧ Sat W0 (HP.pts bc (.cells (if code = 0 then (c.setIfInBounds j x).setIfInBounds j' (.bool true) else c) e (0, 0)) :: t) w'
theorem textPost_no {W0 : World} {t : List HP} {bc j j' : Nat} {c : Array Value} {e : TypeId} {code k : Int} {x : Value} {w' : World} (hk : code = k) (h0 : k ≠ 0) (hs : Sat W0 (HP.pts bc (.cells c e (0, 0)) :: t) w') : TextPost W0 t bc j j' c e code x (.returned (.int .i64 k)) w' := by
  subst hk
  exact ⟨rfl, by rw [if_neg h0]; exact hs⟩
theorem textPost_yes {W0 : World} {t : List HP} {bc j j' : Nat} {c : Array Value} {e : TypeId} {code : Int} {x : Value} {w' : World} (hk : code = 0) (hs : Sat W0 (HP.pts bc (.cells ((c.setIfInBounds j x).setIfInBounds j' (.bool true)) e (0, 0)) :: t) w') : TextPost W0 t bc j j' c e code x (.returned (.int .i64 0)) w' := by
  subst hk
  exact ⟨rfl, by rw [if_pos rfl]; exact hs⟩
theorem text_kind {v : Val} (h : ¬ v.kind = 83) : textCode v = 30 := if_neg h
theorem text_long {v : Val} (h : v.kind = 83) (hl : 255 < v.text.size) : textCode v = 1 := by unfold textCode; rw [if_pos h, if_pos hl]
theorem text_ok {v : Val} (h : v.kind = 83) (hl : v.text.size ≤ 255) : textCode v = 0 := by unfold textCode; rw [if_pos h, if_neg (by omega)]

set_option maxHeartbeats 1000000 in
theorem text_calls (W0 : World) (t : List HP) (bc j j' : Nat) (c : Array Value) (e : TypeId) (v : Val) (w : World) (hs : Sat W0 (HP.pts bc (.cells c e (0, 0)) :: t) w) (hj : j < c.size) (hj' : j' < c.size) :
    Calls Try.prog 30 #[.pointer (some ⟨bc, j, none⟩), .pointer (some ⟨bc, j', none⟩), .agg v.cells.toArray] w (TextPost W0 t bc j j' c e (textCode v) (.string v.text)) := by
  have hj2 : j' < (c.setIfInBounds j (.string v.text)).size := by simpa using hj'
  go_enter Try.func30, Try.ntmps30
  by_cases hk : v.kind = 83
  · by_cases hl : 255 < v.text.size
    · have hk' : ((v.kind : Int) != 83) = false := by simp [hk]
      go_wp2_with (first
        | ((with_reducible refine wpl_box _ _ ?_ ?_); rfl; intro K hK; refine wp_box_sat hs _ _ (.agg v.cells.toArray) rfl rfl ?_; intro B wB hs1; have c0 : wB.cell? ⟨B, 0, none⟩ = some (.int .i64 v.kind) := hs1.cell 0 rfl 0 rfl; have c2 : wB.cell? ⟨B, 2, none⟩ = some (.string v.text) := hs1.cell 0 rfl 2 rfl; refine hK _ _ ?_; clear hK K))
      go_ret
      exact textPost_no (text_long hk hl) (by decide) hs1.drop
    · go_wp2_with (first
        | ((with_reducible refine wpl_box _ _ ?_ ?_); rfl; intro K hK; refine wp_box_sat hs _ _ (.agg v.cells.toArray) rfl rfl ?_; intro B wB hs1; have c0 : wB.cell? ⟨B, 0, none⟩ = some (.int .i64 v.kind) := hs1.cell 0 rfl 0 rfl; have c2 : wB.cell? ⟨B, 2, none⟩ = some (.string v.text) := hs1.cell 0 rfl 2 rfl; refine hK _ _ ?_; clear hK K)
        | ((with_reducible refine wpl_store 9 _ _ ?_ ?_); rfl; intro K hK; refine wp_store_one hs1 1 _ _ _ rfl _ _ tiStr bc j _ _ rfl rfl (.string _) rfl hj rfl ?_; intro w2 hs2; refine hK _ _ ?_; clear hK K)
        | ((with_reducible refine wpl_store 4 _ _ ?_ ?_); rfl; intro K hK; refine wp_store_one hs2 1 _ _ _ rfl _ _ tiBool bc j' _ _ rfl rfl (.bool _) rfl hj2 rfl ?_; intro w3 hs3; refine hK _ _ ?_; clear hK K))
      go_ret
      exact textPost_yes (text_ok hk (by omega)) hs3.drop
  · go_wp2_with (first
      | ((with_reducible refine wpl_box _ _ ?_ ?_); rfl; intro K hK; refine wp_box_sat hs _ _ (.agg v.cells.toArray) rfl rfl ?_; intro B wB hs1; have c0 : wB.cell? ⟨B, 0, none⟩ = some (.int .i64 v.kind) := hs1.cell 0 rfl 0 rfl; have c2 : wB.cell? ⟨B, 2, none⟩ = some (.string v.text) := hs1.cell 0 rfl 2 rfl; refine hK _ _ ?_; clear hK K))
    go_ret
    exact textPost_no (text_kind hk) (by decide) hs1.drop
/-! set -/
theorem tiVal : TI Try.prog 54 (.agg #[.int .i64 0, .int .i64 0, .string ByteArray.empty, .slice none 0 0, .slice none 0 0]) 5 80 := by unfold TI; kernel_rfl
theorem tiFld : TI Try.prog 56 (.agg #[.string ByteArray.empty, .int .i64 0, .int .i64 0, .string ByteArray.empty, .slice none 0 0, .slice none 0 0]) 6 96 := by unfold TI; kernel_rfl
theorem aggVal : aggregate Try.prog 54 = true := by kernel_rfl
theorem aggFld : aggregate Try.prog 56 = true := by kernel_rfl
theorem val_length (v : Val) : v.cells.length = 5 := rfl
theorem fld_val (f : Fld) : ∀ j u, f.val.cells[j]? = some u → f.cells[1 + j]? = some u := fun j u hu => by
  rw [Nat.add_comm]; exact hu

def SetPost (W0 : World) (t : List HP) (bc : Nat) (c : Conf) (r : Int × Conf) (en : Ending) (w' : World) : Prop :=
  en = .returned (.int .i64 r.1) ∧ Sat W0 (HP.pts bc (.cells r.2.cells.toArray 25 (0, 0)) :: t) w'
theorem setPost_num {W0 : World} {t : List HP} {bc j : Nat} {c c' : Conf} {r : Int × Conf} {k : Int} {x : Value} {w' : World} (h : r = (k, if k = 0 then c' else c)) (hc : c.cells.toArray.setIfInBounds j x = c'.cells.toArray)
    (hs : Sat W0 (HP.pts bc (.cells (if k = 0 then c.cells.toArray.setIfInBounds j x else c.cells.toArray) 25 (0, 0)) :: t) w') : SetPost W0 t bc c r (.returned (.int .i64 k)) w' := by
  subst h
  refine ⟨rfl, ?_⟩
  by_cases h0 : k = 0
  · rw [if_pos h0] at hs ⊢; rw [← hc]; exact hs
  · rw [if_neg h0] at hs ⊢; exact hs
theorem setPost_text {W0 : World} {t : List HP} {bc j j' : Nat} {c c' : Conf} {r : Int × Conf} {k : Int} {x : Value} {w' : World} (h : r = (k, if k = 0 then c' else c)) (hc : (c.cells.toArray.setIfInBounds j x).setIfInBounds j' (.bool true) = c'.cells.toArray)
    (hs : Sat W0 (HP.pts bc (.cells (if k = 0 then (c.cells.toArray.setIfInBounds j x).setIfInBounds j' (.bool true) else c.cells.toArray) 25 (0, 0)) :: t) w') : SetPost W0 t bc c r (.returned (.int .i64 k)) w' := by
  subst h
  refine ⟨rfl, ?_⟩
  by_cases h0 : k = 0
  · rw [if_pos h0] at hs ⊢; rw [← hc]; exact hs
  · rw [if_neg h0] at hs ⊢; exact hs

theorem set_code0 {c : Conf} {f : Fld}  (h0 : f.name.toList = [120, 45, 109, 101, 115, 115, 97, 103, 101, 45, 116, 116, 108]) : setCode c f = (numCode f.val 0 2147483647, if numCode f.val 0 2147483647 = 0 then { c with ttl := f.val.num } else c) := by
  unfold setCode;  rw [if_pos h0]
set_option maxHeartbeats 1000000 in
theorem set_calls0 (W0 : World) (t : List HP) (bc : Nat) (c : Conf) (f : Fld) (w : World) (hs : Sat W0 (HP.pts bc (.cells c.cells.toArray 25 (0, 0)) :: t) w)  (h0 : f.name.toList = [120, 45, 109, 101, 115, 115, 97, 103, 101, 45, 116, 116, 108]) :
    Calls Try.prog 25 #[.pointer (some ⟨bc, 0, none⟩), .agg f.cells.toArray] w (SetPost W0 t bc c (setCode c f)) := by
  have hcode := set_code0 (c := c) h0
  have HC := Lib.hid hcode
  clear hcode
  have b0 : (f.name.toList == [120, 45, 109, 101, 115, 115, 97, 103, 101, 45, 116, 116, 108]) = true := by simp [h0]
  clear h0
  have hj : 0 < c.cells.toArray.size := by simp [Conf.cells]
  go_enter Try.func25, Try.ntmps25
  go_wp2_with ((with_reducible refine wpl_box _ _ ?_ ?_); rfl; intro K hK; refine wp_box_sat hs _ _ (.agg f.cells.toArray) rfl rfl ?_; intro B wB hs1; have c0 : wB.cell? ⟨B, 0, none⟩ = some (.string f.name) := hs1.cell 0 rfl 0 rfl; refine hK _ _ ?_; clear hK K)
  all_goals
    refine Text.wp_region_text (fun _ => True) [] (by kernel_rfl) (by kernel_rfl) trivial (fun K hK => ?_)
    (repeat ((first | (refine Text.wpT_skip (by rfl) trivial ?_) | (apply Text.wpT_held (by rfl) (by rfl); · (intro w1 hI1; go_simp; try with_reducible rfl)) | (refine Text.wpT_read (by rfl) (by rfl) (.agg f.val.cells.toArray) (exec_load rfl (run_load_agg aggVal tiVal (val_length f.val) (hs1.drew.cellsAt 0 rfl 1 (fld_val f)))) ?_) | (refine Text.wpT_write (by rfl) (by rfl) (fun K' hK' => ?_); go_simp; go_at_call 29; refine (number_calls W0 _ bc 0 _ _ f.val 0 2147483647 _ (hs1.drew.swap) hj).mono ?_; rintro e' w' ⟨rfl, hs3⟩; refine hK' _ _ trivial ?_; clear hK' K')); try simp only [Act.put, List.setIfInBounds_toArray, List.set_cons_zero, List.set_cons_succ]))
    refine Text.wpT_nil (hK _ _ trivial ?_)
    clear hK K
    go_wp2
    go_ret
    exact setPost_num HC.out (by simp [Conf.cells]) hs3.swap.drop
theorem set_code1 {c : Conf} {f : Fld} (h0 : ¬ f.name.toList = [120, 45, 109, 101, 115, 115, 97, 103, 101, 45, 116, 116, 108]) (h1 : f.name.toList = [120, 45, 101, 120, 112, 105, 114, 101, 115]) : setCode c f = (numCode f.val 1 2147483647, if numCode f.val 1 2147483647 = 0 then { c with exp := f.val.num } else c) := by
  unfold setCode; rw [if_neg h0]; rw [if_pos h1]
set_option maxHeartbeats 1000000 in
theorem set_calls1 (W0 : World) (t : List HP) (bc : Nat) (c : Conf) (f : Fld) (w : World) (hs : Sat W0 (HP.pts bc (.cells c.cells.toArray 25 (0, 0)) :: t) w) (h0 : ¬ f.name.toList = [120, 45, 109, 101, 115, 115, 97, 103, 101, 45, 116, 116, 108]) (h1 : f.name.toList = [120, 45, 101, 120, 112, 105, 114, 101, 115]) :
    Calls Try.prog 25 #[.pointer (some ⟨bc, 0, none⟩), .agg f.cells.toArray] w (SetPost W0 t bc c (setCode c f)) := by
  have hcode := set_code1 (c := c) h0 h1
  have HC := Lib.hid hcode
  clear hcode
  have b0 : (f.name.toList == [120, 45, 109, 101, 115, 115, 97, 103, 101, 45, 116, 116, 108]) = false := by simp [h0]
  have b1 : (f.name.toList == [120, 45, 101, 120, 112, 105, 114, 101, 115]) = true := by simp [h1]
  clear h0 h1
  have hj : 1 < c.cells.toArray.size := by simp [Conf.cells]
  go_enter Try.func25, Try.ntmps25
  go_wp2_with ((with_reducible refine wpl_box _ _ ?_ ?_); rfl; intro K hK; refine wp_box_sat hs _ _ (.agg f.cells.toArray) rfl rfl ?_; intro B wB hs1; have c0 : wB.cell? ⟨B, 0, none⟩ = some (.string f.name) := hs1.cell 0 rfl 0 rfl; refine hK _ _ ?_; clear hK K)
  all_goals
    refine Text.wp_region_text (fun _ => True) [] (by kernel_rfl) (by kernel_rfl) trivial (fun K hK => ?_)
    (repeat ((first | (refine Text.wpT_skip (by rfl) trivial ?_) | (apply Text.wpT_held (by rfl) (by rfl); · (intro w1 hI1; go_simp; try with_reducible rfl)) | (refine Text.wpT_read (by rfl) (by rfl) (.agg f.val.cells.toArray) (exec_load rfl (run_load_agg aggVal tiVal (val_length f.val) (hs1.drew.cellsAt 0 rfl 1 (fld_val f)))) ?_) | (refine Text.wpT_write (by rfl) (by rfl) (fun K' hK' => ?_); go_simp; go_at_call 29; refine (number_calls W0 _ bc 1 _ _ f.val 1 2147483647 _ (hs1.drew.swap) hj).mono ?_; rintro e' w' ⟨rfl, hs3⟩; refine hK' _ _ trivial ?_; clear hK' K')); try simp only [Act.put, List.setIfInBounds_toArray, List.set_cons_zero, List.set_cons_succ]))
    refine Text.wpT_nil (hK _ _ trivial ?_)
    clear hK K
    go_wp2
    go_ret
    exact setPost_num HC.out (by simp [Conf.cells]) hs3.swap.drop
theorem set_code2 {c : Conf} {f : Fld} (h0 : ¬ f.name.toList = [120, 45, 109, 101, 115, 115, 97, 103, 101, 45, 116, 116, 108]) (h1 : ¬ f.name.toList = [120, 45, 101, 120, 112, 105, 114, 101, 115]) (h2 : f.name.toList = [120, 45, 109, 97, 120, 45, 108, 101, 110, 103, 116, 104]) : setCode c f = (numCode f.val 0 2147483647, if numCode f.val 0 2147483647 = 0 then { c with mlen := f.val.num } else c) := by
  unfold setCode; rw [if_neg h0]; rw [if_neg h1]; rw [if_pos h2]
set_option maxHeartbeats 1000000 in
theorem set_calls2 (W0 : World) (t : List HP) (bc : Nat) (c : Conf) (f : Fld) (w : World) (hs : Sat W0 (HP.pts bc (.cells c.cells.toArray 25 (0, 0)) :: t) w) (h0 : ¬ f.name.toList = [120, 45, 109, 101, 115, 115, 97, 103, 101, 45, 116, 116, 108]) (h1 : ¬ f.name.toList = [120, 45, 101, 120, 112, 105, 114, 101, 115]) (h2 : f.name.toList = [120, 45, 109, 97, 120, 45, 108, 101, 110, 103, 116, 104]) :
    Calls Try.prog 25 #[.pointer (some ⟨bc, 0, none⟩), .agg f.cells.toArray] w (SetPost W0 t bc c (setCode c f)) := by
  have hcode := set_code2 (c := c) h0 h1 h2
  have HC := Lib.hid hcode
  clear hcode
  have b0 : (f.name.toList == [120, 45, 109, 101, 115, 115, 97, 103, 101, 45, 116, 116, 108]) = false := by simp [h0]
  have b1 : (f.name.toList == [120, 45, 101, 120, 112, 105, 114, 101, 115]) = false := by simp [h1]
  have b2 : (f.name.toList == [120, 45, 109, 97, 120, 45, 108, 101, 110, 103, 116, 104]) = true := by simp [h2]
  clear h0 h1 h2
  have hj : 2 < c.cells.toArray.size := by simp [Conf.cells]
  go_enter Try.func25, Try.ntmps25
  go_wp2_with ((with_reducible refine wpl_box _ _ ?_ ?_); rfl; intro K hK; refine wp_box_sat hs _ _ (.agg f.cells.toArray) rfl rfl ?_; intro B wB hs1; have c0 : wB.cell? ⟨B, 0, none⟩ = some (.string f.name) := hs1.cell 0 rfl 0 rfl; refine hK _ _ ?_; clear hK K)
  all_goals
    refine Text.wp_region_text (fun _ => True) [] (by kernel_rfl) (by kernel_rfl) trivial (fun K hK => ?_)
    (repeat ((first | (refine Text.wpT_skip (by rfl) trivial ?_) | (apply Text.wpT_held (by rfl) (by rfl); · (intro w1 hI1; go_simp; try with_reducible rfl)) | (refine Text.wpT_read (by rfl) (by rfl) (.agg f.val.cells.toArray) (exec_load rfl (run_load_agg aggVal tiVal (val_length f.val) (hs1.drew.cellsAt 0 rfl 1 (fld_val f)))) ?_) | (refine Text.wpT_write (by rfl) (by rfl) (fun K' hK' => ?_); go_simp; go_at_call 29; refine (number_calls W0 _ bc 2 _ _ f.val 0 2147483647 _ (hs1.drew.swap) hj).mono ?_; rintro e' w' ⟨rfl, hs3⟩; refine hK' _ _ trivial ?_; clear hK' K')); try simp only [Act.put, List.setIfInBounds_toArray, List.set_cons_zero, List.set_cons_succ]))
    refine Text.wpT_nil (hK _ _ trivial ?_)
    clear hK K
    go_wp2
    go_ret
    exact setPost_num HC.out (by simp [Conf.cells]) hs3.swap.drop
theorem set_code3 {c : Conf} {f : Fld} (h0 : ¬ f.name.toList = [120, 45, 109, 101, 115, 115, 97, 103, 101, 45, 116, 116, 108]) (h1 : ¬ f.name.toList = [120, 45, 101, 120, 112, 105, 114, 101, 115]) (h2 : ¬ f.name.toList = [120, 45, 109, 97, 120, 45, 108, 101, 110, 103, 116, 104]) (h3 : f.name.toList = [120, 45, 109, 97, 120, 45, 112, 114, 105, 111, 114, 105, 116, 121]) : setCode c f = (numCode f.val 0 9, if numCode f.val 0 9 = 0 then { c with mprio := f.val.num } else c) := by
  unfold setCode; rw [if_neg h0]; rw [if_neg h1]; rw [if_neg h2]; rw [if_pos h3]
set_option maxHeartbeats 1000000 in
theorem set_calls3 (W0 : World) (t : List HP) (bc : Nat) (c : Conf) (f : Fld) (w : World) (hs : Sat W0 (HP.pts bc (.cells c.cells.toArray 25 (0, 0)) :: t) w) (h0 : ¬ f.name.toList = [120, 45, 109, 101, 115, 115, 97, 103, 101, 45, 116, 116, 108]) (h1 : ¬ f.name.toList = [120, 45, 101, 120, 112, 105, 114, 101, 115]) (h2 : ¬ f.name.toList = [120, 45, 109, 97, 120, 45, 108, 101, 110, 103, 116, 104]) (h3 : f.name.toList = [120, 45, 109, 97, 120, 45, 112, 114, 105, 111, 114, 105, 116, 121]) :
    Calls Try.prog 25 #[.pointer (some ⟨bc, 0, none⟩), .agg f.cells.toArray] w (SetPost W0 t bc c (setCode c f)) := by
  have hcode := set_code3 (c := c) h0 h1 h2 h3
  have HC := Lib.hid hcode
  clear hcode
  have b0 : (f.name.toList == [120, 45, 109, 101, 115, 115, 97, 103, 101, 45, 116, 116, 108]) = false := by simp [h0]
  have b1 : (f.name.toList == [120, 45, 101, 120, 112, 105, 114, 101, 115]) = false := by simp [h1]
  have b2 : (f.name.toList == [120, 45, 109, 97, 120, 45, 108, 101, 110, 103, 116, 104]) = false := by simp [h2]
  have b3 : (f.name.toList == [120, 45, 109, 97, 120, 45, 112, 114, 105, 111, 114, 105, 116, 121]) = true := by simp [h3]
  clear h0 h1 h2 h3
  have hj : 3 < c.cells.toArray.size := by simp [Conf.cells]
  go_enter Try.func25, Try.ntmps25
  go_wp2_with ((with_reducible refine wpl_box _ _ ?_ ?_); rfl; intro K hK; refine wp_box_sat hs _ _ (.agg f.cells.toArray) rfl rfl ?_; intro B wB hs1; have c0 : wB.cell? ⟨B, 0, none⟩ = some (.string f.name) := hs1.cell 0 rfl 0 rfl; refine hK _ _ ?_; clear hK K)
  all_goals
    refine Text.wp_region_text (fun _ => True) [] (by kernel_rfl) (by kernel_rfl) trivial (fun K hK => ?_)
    (repeat ((first | (refine Text.wpT_skip (by rfl) trivial ?_) | (apply Text.wpT_held (by rfl) (by rfl); · (intro w1 hI1; go_simp; try with_reducible rfl)) | (refine Text.wpT_read (by rfl) (by rfl) (.agg f.val.cells.toArray) (exec_load rfl (run_load_agg aggVal tiVal (val_length f.val) (hs1.drew.cellsAt 0 rfl 1 (fld_val f)))) ?_) | (refine Text.wpT_write (by rfl) (by rfl) (fun K' hK' => ?_); go_simp; go_at_call 29; refine (number_calls W0 _ bc 3 _ _ f.val 0 9 _ (hs1.drew.swap) hj).mono ?_; rintro e' w' ⟨rfl, hs3⟩; refine hK' _ _ trivial ?_; clear hK' K')); try simp only [Act.put, List.setIfInBounds_toArray, List.set_cons_zero, List.set_cons_succ]))
    refine Text.wpT_nil (hK _ _ trivial ?_)
    clear hK K
    go_wp2
    go_ret
    exact setPost_num HC.out (by simp [Conf.cells]) hs3.swap.drop
theorem set_code4 {c : Conf} {f : Fld} (h0 : ¬ f.name.toList = [120, 45, 109, 101, 115, 115, 97, 103, 101, 45, 116, 116, 108]) (h1 : ¬ f.name.toList = [120, 45, 101, 120, 112, 105, 114, 101, 115]) (h2 : ¬ f.name.toList = [120, 45, 109, 97, 120, 45, 108, 101, 110, 103, 116, 104]) (h3 : ¬ f.name.toList = [120, 45, 109, 97, 120, 45, 112, 114, 105, 111, 114, 105, 116, 121]) (h4 : f.name.toList = [120, 45, 100, 101, 97, 100, 45, 108, 101, 116, 116, 101, 114, 45, 101, 120, 99, 104, 97, 110, 103, 101]) : setCode c f = (textCode f.val, if textCode f.val = 0 then { c with dlx := f.val.text, hdlx := true } else c) := by
  unfold setCode; rw [if_neg h0]; rw [if_neg h1]; rw [if_neg h2]; rw [if_neg h3]; rw [if_pos h4]
set_option maxHeartbeats 1000000 in
theorem set_calls4 (W0 : World) (t : List HP) (bc : Nat) (c : Conf) (f : Fld) (w : World) (hs : Sat W0 (HP.pts bc (.cells c.cells.toArray 25 (0, 0)) :: t) w) (h0 : ¬ f.name.toList = [120, 45, 109, 101, 115, 115, 97, 103, 101, 45, 116, 116, 108]) (h1 : ¬ f.name.toList = [120, 45, 101, 120, 112, 105, 114, 101, 115]) (h2 : ¬ f.name.toList = [120, 45, 109, 97, 120, 45, 108, 101, 110, 103, 116, 104]) (h3 : ¬ f.name.toList = [120, 45, 109, 97, 120, 45, 112, 114, 105, 111, 114, 105, 116, 121]) (h4 : f.name.toList = [120, 45, 100, 101, 97, 100, 45, 108, 101, 116, 116, 101, 114, 45, 101, 120, 99, 104, 97, 110, 103, 101]) :
    Calls Try.prog 25 #[.pointer (some ⟨bc, 0, none⟩), .agg f.cells.toArray] w (SetPost W0 t bc c (setCode c f)) := by
  have hcode := set_code4 (c := c) h0 h1 h2 h3 h4
  have HC := Lib.hid hcode
  clear hcode
  have b0 : (f.name.toList == [120, 45, 109, 101, 115, 115, 97, 103, 101, 45, 116, 116, 108]) = false := by simp [h0]
  have b1 : (f.name.toList == [120, 45, 101, 120, 112, 105, 114, 101, 115]) = false := by simp [h1]
  have b2 : (f.name.toList == [120, 45, 109, 97, 120, 45, 108, 101, 110, 103, 116, 104]) = false := by simp [h2]
  have b3 : (f.name.toList == [120, 45, 109, 97, 120, 45, 112, 114, 105, 111, 114, 105, 116, 121]) = false := by simp [h3]
  have b4 : (f.name.toList == [120, 45, 100, 101, 97, 100, 45, 108, 101, 116, 116, 101, 114, 45, 101, 120, 99, 104, 97, 110, 103, 101]) = true := by simp [h4]
  clear h0 h1 h2 h3 h4
  have hj : 4 < c.cells.toArray.size := by simp [Conf.cells]
  have hj2 : 7 < c.cells.toArray.size := by simp [Conf.cells]
  go_enter Try.func25, Try.ntmps25
  go_wp2_with ((with_reducible refine wpl_box _ _ ?_ ?_); rfl; intro K hK; refine wp_box_sat hs _ _ (.agg f.cells.toArray) rfl rfl ?_; intro B wB hs1; have c0 : wB.cell? ⟨B, 0, none⟩ = some (.string f.name) := hs1.cell 0 rfl 0 rfl; refine hK _ _ ?_; clear hK K)
  all_goals
    refine Text.wp_region_text (fun _ => True) [] (by kernel_rfl) (by kernel_rfl) trivial (fun K hK => ?_)
    (repeat ((first | (refine Text.wpT_skip (by rfl) trivial ?_) | (apply Text.wpT_held (by rfl) (by rfl); · (intro w1 hI1; go_simp; try with_reducible rfl)) | (refine Text.wpT_read (by rfl) (by rfl) (.agg f.val.cells.toArray) (exec_load rfl (run_load_agg aggVal tiVal (val_length f.val) (hs1.drew.cellsAt 0 rfl 1 (fld_val f)))) ?_) | (refine Text.wpT_write (by rfl) (by rfl) (fun K' hK' => ?_); go_simp; go_at_call 30; refine (text_calls W0 _ bc 4 7 _ _ f.val _ (hs1.drew.swap) hj hj2).mono ?_; rintro e' w' ⟨rfl, hs3⟩; refine hK' _ _ trivial ?_; clear hK' K')); try simp only [Act.put, List.setIfInBounds_toArray, List.set_cons_zero, List.set_cons_succ]))
    refine Text.wpT_nil (hK _ _ trivial ?_)
    clear hK K
    go_wp2
    go_ret
    exact setPost_text HC.out (by simp [Conf.cells]) hs3.swap.drop
theorem set_code5 {c : Conf} {f : Fld} (h0 : ¬ f.name.toList = [120, 45, 109, 101, 115, 115, 97, 103, 101, 45, 116, 116, 108]) (h1 : ¬ f.name.toList = [120, 45, 101, 120, 112, 105, 114, 101, 115]) (h2 : ¬ f.name.toList = [120, 45, 109, 97, 120, 45, 108, 101, 110, 103, 116, 104]) (h3 : ¬ f.name.toList = [120, 45, 109, 97, 120, 45, 112, 114, 105, 111, 114, 105, 116, 121]) (h4 : ¬ f.name.toList = [120, 45, 100, 101, 97, 100, 45, 108, 101, 116, 116, 101, 114, 45, 101, 120, 99, 104, 97, 110, 103, 101]) (h5 : f.name.toList = [120, 45, 100, 101, 97, 100, 45, 108, 101, 116, 116, 101, 114, 45, 114, 111, 117, 116, 105, 110, 103, 45, 107, 101, 121]) : setCode c f = (textCode f.val, if textCode f.val = 0 then { c with dlk := f.val.text, hdlk := true } else c) := by
  unfold setCode; rw [if_neg h0]; rw [if_neg h1]; rw [if_neg h2]; rw [if_neg h3]; rw [if_neg h4]; rw [if_pos h5]
set_option maxHeartbeats 1000000 in
theorem set_calls5 (W0 : World) (t : List HP) (bc : Nat) (c : Conf) (f : Fld) (w : World) (hs : Sat W0 (HP.pts bc (.cells c.cells.toArray 25 (0, 0)) :: t) w) (h0 : ¬ f.name.toList = [120, 45, 109, 101, 115, 115, 97, 103, 101, 45, 116, 116, 108]) (h1 : ¬ f.name.toList = [120, 45, 101, 120, 112, 105, 114, 101, 115]) (h2 : ¬ f.name.toList = [120, 45, 109, 97, 120, 45, 108, 101, 110, 103, 116, 104]) (h3 : ¬ f.name.toList = [120, 45, 109, 97, 120, 45, 112, 114, 105, 111, 114, 105, 116, 121]) (h4 : ¬ f.name.toList = [120, 45, 100, 101, 97, 100, 45, 108, 101, 116, 116, 101, 114, 45, 101, 120, 99, 104, 97, 110, 103, 101]) (h5 : f.name.toList = [120, 45, 100, 101, 97, 100, 45, 108, 101, 116, 116, 101, 114, 45, 114, 111, 117, 116, 105, 110, 103, 45, 107, 101, 121]) :
    Calls Try.prog 25 #[.pointer (some ⟨bc, 0, none⟩), .agg f.cells.toArray] w (SetPost W0 t bc c (setCode c f)) := by
  have hcode := set_code5 (c := c) h0 h1 h2 h3 h4 h5
  have HC := Lib.hid hcode
  clear hcode
  have b0 : (f.name.toList == [120, 45, 109, 101, 115, 115, 97, 103, 101, 45, 116, 116, 108]) = false := by simp [h0]
  have b1 : (f.name.toList == [120, 45, 101, 120, 112, 105, 114, 101, 115]) = false := by simp [h1]
  have b2 : (f.name.toList == [120, 45, 109, 97, 120, 45, 108, 101, 110, 103, 116, 104]) = false := by simp [h2]
  have b3 : (f.name.toList == [120, 45, 109, 97, 120, 45, 112, 114, 105, 111, 114, 105, 116, 121]) = false := by simp [h3]
  have b4 : (f.name.toList == [120, 45, 100, 101, 97, 100, 45, 108, 101, 116, 116, 101, 114, 45, 101, 120, 99, 104, 97, 110, 103, 101]) = false := by simp [h4]
  have b5 : (f.name.toList == [120, 45, 100, 101, 97, 100, 45, 108, 101, 116, 116, 101, 114, 45, 114, 111, 117, 116, 105, 110, 103, 45, 107, 101, 121]) = true := by simp [h5]
  clear h0 h1 h2 h3 h4 h5
  have hj : 5 < c.cells.toArray.size := by simp [Conf.cells]
  have hj2 : 8 < c.cells.toArray.size := by simp [Conf.cells]
  go_enter Try.func25, Try.ntmps25
  go_wp2_with ((with_reducible refine wpl_box _ _ ?_ ?_); rfl; intro K hK; refine wp_box_sat hs _ _ (.agg f.cells.toArray) rfl rfl ?_; intro B wB hs1; have c0 : wB.cell? ⟨B, 0, none⟩ = some (.string f.name) := hs1.cell 0 rfl 0 rfl; refine hK _ _ ?_; clear hK K)
  all_goals
    refine Text.wp_region_text (fun _ => True) [] (by kernel_rfl) (by kernel_rfl) trivial (fun K hK => ?_)
    (repeat ((first | (refine Text.wpT_skip (by rfl) trivial ?_) | (apply Text.wpT_held (by rfl) (by rfl); · (intro w1 hI1; go_simp; try with_reducible rfl)) | (refine Text.wpT_read (by rfl) (by rfl) (.agg f.val.cells.toArray) (exec_load rfl (run_load_agg aggVal tiVal (val_length f.val) (hs1.drew.cellsAt 0 rfl 1 (fld_val f)))) ?_) | (refine Text.wpT_write (by rfl) (by rfl) (fun K' hK' => ?_); go_simp; go_at_call 30; refine (text_calls W0 _ bc 5 8 _ _ f.val _ (hs1.drew.swap) hj hj2).mono ?_; rintro e' w' ⟨rfl, hs3⟩; refine hK' _ _ trivial ?_; clear hK' K')); try simp only [Act.put, List.setIfInBounds_toArray, List.set_cons_zero, List.set_cons_succ]))
    refine Text.wpT_nil (hK _ _ trivial ?_)
    clear hK K
    go_wp2
    go_ret
    exact setPost_text HC.out (by simp [Conf.cells]) hs3.swap.drop
theorem set_code6 {c : Conf} {f : Fld} (h0 : ¬ f.name.toList = [120, 45, 109, 101, 115, 115, 97, 103, 101, 45, 116, 116, 108]) (h1 : ¬ f.name.toList = [120, 45, 101, 120, 112, 105, 114, 101, 115]) (h2 : ¬ f.name.toList = [120, 45, 109, 97, 120, 45, 108, 101, 110, 103, 116, 104]) (h3 : ¬ f.name.toList = [120, 45, 109, 97, 120, 45, 112, 114, 105, 111, 114, 105, 116, 121]) (h4 : ¬ f.name.toList = [120, 45, 100, 101, 97, 100, 45, 108, 101, 116, 116, 101, 114, 45, 101, 120, 99, 104, 97, 110, 103, 101]) (h5 : ¬ f.name.toList = [120, 45, 100, 101, 97, 100, 45, 108, 101, 116, 116, 101, 114, 45, 114, 111, 117, 116, 105, 110, 103, 45, 107, 101, 121]) : setCode c f = (0, c) := by
  unfold setCode; rw [if_neg h0]; rw [if_neg h1]; rw [if_neg h2]; rw [if_neg h3]; rw [if_neg h4]; rw [if_neg h5]; skip
set_option maxHeartbeats 1000000 in
theorem set_calls6 (W0 : World) (t : List HP) (bc : Nat) (c : Conf) (f : Fld) (w : World) (hs : Sat W0 (HP.pts bc (.cells c.cells.toArray 25 (0, 0)) :: t) w) (h0 : ¬ f.name.toList = [120, 45, 109, 101, 115, 115, 97, 103, 101, 45, 116, 116, 108]) (h1 : ¬ f.name.toList = [120, 45, 101, 120, 112, 105, 114, 101, 115]) (h2 : ¬ f.name.toList = [120, 45, 109, 97, 120, 45, 108, 101, 110, 103, 116, 104]) (h3 : ¬ f.name.toList = [120, 45, 109, 97, 120, 45, 112, 114, 105, 111, 114, 105, 116, 121]) (h4 : ¬ f.name.toList = [120, 45, 100, 101, 97, 100, 45, 108, 101, 116, 116, 101, 114, 45, 101, 120, 99, 104, 97, 110, 103, 101]) (h5 : ¬ f.name.toList = [120, 45, 100, 101, 97, 100, 45, 108, 101, 116, 116, 101, 114, 45, 114, 111, 117, 116, 105, 110, 103, 45, 107, 101, 121]) :
    Calls Try.prog 25 #[.pointer (some ⟨bc, 0, none⟩), .agg f.cells.toArray] w (SetPost W0 t bc c (setCode c f)) := by
  have hcode := set_code6 (c := c) h0 h1 h2 h3 h4 h5
  have HC := Lib.hid hcode
  clear hcode
  have b0 : (f.name.toList == [120, 45, 109, 101, 115, 115, 97, 103, 101, 45, 116, 116, 108]) = false := by simp [h0]
  have b1 : (f.name.toList == [120, 45, 101, 120, 112, 105, 114, 101, 115]) = false := by simp [h1]
  have b2 : (f.name.toList == [120, 45, 109, 97, 120, 45, 108, 101, 110, 103, 116, 104]) = false := by simp [h2]
  have b3 : (f.name.toList == [120, 45, 109, 97, 120, 45, 112, 114, 105, 111, 114, 105, 116, 121]) = false := by simp [h3]
  have b4 : (f.name.toList == [120, 45, 100, 101, 97, 100, 45, 108, 101, 116, 116, 101, 114, 45, 101, 120, 99, 104, 97, 110, 103, 101]) = false := by simp [h4]
  have b5 : (f.name.toList == [120, 45, 100, 101, 97, 100, 45, 108, 101, 116, 116, 101, 114, 45, 114, 111, 117, 116, 105, 110, 103, 45, 107, 101, 121]) = false := by simp [h5]
  clear h0 h1 h2 h3 h4 h5
  go_enter Try.func25, Try.ntmps25
  go_wp2_with ((with_reducible refine wpl_box _ _ ?_ ?_); rfl; intro K hK; refine wp_box_sat hs _ _ (.agg f.cells.toArray) rfl rfl ?_; intro B wB hs1; have c0 : wB.cell? ⟨B, 0, none⟩ = some (.string f.name) := hs1.cell 0 rfl 0 rfl; refine hK _ _ ?_; clear hK K)
  go_ret
  exact ⟨by rw [HC.out]; rfl, by rw [HC.out]; exact hs1.drop⟩
theorem set_calls (W0 : World) (t : List HP) (bc : Nat) (c : Conf) (f : Fld) (w : World) (hs : Sat W0 (HP.pts bc (.cells c.cells.toArray 25 (0, 0)) :: t) w) :
    Calls Try.prog 25 #[.pointer (some ⟨bc, 0, none⟩), .agg f.cells.toArray] w (SetPost W0 t bc c (setCode c f)) := by
  by_cases h0 : f.name.toList = [120, 45, 109, 101, 115, 115, 97, 103, 101, 45, 116, 116, 108]
  · exact set_calls0 W0 t bc c f w hs h0
  by_cases h1 : f.name.toList = [120, 45, 101, 120, 112, 105, 114, 101, 115]
  · exact set_calls1 W0 t bc c f w hs h0 h1
  by_cases h2 : f.name.toList = [120, 45, 109, 97, 120, 45, 108, 101, 110, 103, 116, 104]
  · exact set_calls2 W0 t bc c f w hs h0 h1 h2
  by_cases h3 : f.name.toList = [120, 45, 109, 97, 120, 45, 112, 114, 105, 111, 114, 105, 116, 121]
  · exact set_calls3 W0 t bc c f w hs h0 h1 h2 h3
  by_cases h4 : f.name.toList = [120, 45, 100, 101, 97, 100, 45, 108, 101, 116, 116, 101, 114, 45, 101, 120, 99, 104, 97, 110, 103, 101]
  · exact set_calls4 W0 t bc c f w hs h0 h1 h2 h3 h4
  by_cases h5 : f.name.toList = [120, 45, 100, 101, 97, 100, 45, 108, 101, 116, 116, 101, 114, 45, 114, 111, 117, 116, 105, 110, 103, 45, 107, 101, 121]
  · exact set_calls5 W0 t bc c f w hs h0 h1 h2 h3 h4 h5
  exact set_calls6 W0 t bc c f w hs h0 h1 h2 h3 h4 h5
end Pol
end Go.Proofs.Ytfledabgdcnkfaa
