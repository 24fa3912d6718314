/- IndexRune and ContainsRune of a text of ASCII, whatever the rune; the closure of List. -/
import Derived.Test.YtpmmaickjolimaaGreatDoorEk
import Derived.Test.YtpmmaickjolimaaGreatDoorShef
import Derived.Laws.Runes
import Derived.WalkMore
import Derived.Shelf.Strings.FieldsFuncGrows
namespace Go.Proofs.YtpmmaickjolimaaGreatDoor.Ci
open Go.RowKit

theorem indexByte_none (c : UInt8) : ∀ l : List UInt8, c ∉ l → Lib.indexByte l c = -1
  | [], _ => rfl
  | b :: l, h => by
    have hb : (b == c) = false := by rw [beq_eq_false_iff_ne]; intro e; exact h (by simp [e])
    have ih := indexByte_none c l (fun e => h (List.mem_cons_of_mem _ e))
    unfold Lib.indexByte
    rw [hb, ih]
    rfl
theorem decode_ascii (s : ByteArray) (ha : ∀ b ∈ s.data.toList, b.toNat < 128) (pos : Nat) (h : pos < s.size) : ∃ b, b < 128 ∧ Utf8.decode s pos = (b, 1) := by
  have hb : (s.get! pos).toNat < 128 := by
    rw [get_at]
    unfold List.getD
    rw [at_get s pos h]
    exact ha _ (List.mem_of_getElem? (at_get s pos h))
  refine ⟨_, hb, ?_⟩
  rw [Lib.decode_at]
  unfold Lib.decodeN
  rw [if_pos hb]
set_option maxHeartbeats 4000000 in
set_option maxRecDepth 100000 in
theorem idxrune_big (s : ByteArray) (ha : ∀ b ∈ s.data.toList, b.toNat < 128) (h5 : 5 ≤ s.size) (hs : s.size < 4294967281) (r : Nat) (h1 : 128 ≤ r) (h2 : r ≤ 1114111) (w : World) :
    Calls Tryz.prog 83 #[.string s, .int .i32 (r : Int)] w fun e w' => e = .returned (.int .i64 (-1)) ∧ Bel w w' := by
  have d0 : decide ((r : Int) < 128) = false := decide_eq_false (by omega)
  by_cases hr : r = 65533
  · have dr : ((r : Int) == 65533) = true := by rw [hr]; rfl
    have HA := hid ha
    clear hr ha
    go_enter Tryz.func83, Tryz.ntmps83
    go_wp2_with fail
    go_loopg [] s.size (fun gf wx => ∃ pos : Nat, wx.heap[w.heap.size]? = some (.stringIter s pos) ∧ Below w.heap.size w wx ∧ s.size ≤ pos + gf)
    case atStart => exact ⟨0, World.iter_heap w s 0, (Below.refl _ w).alloc (Nat.le_refl _) _, by omega⟩
    case round =>
      obtain ⟨pos, hit, hbw, hfu⟩ := hrel
      by_cases hps : pos < s.size
      · have hnx : ∀ ty, (Instr.next (.pointer (some ⟨w.heap.size, 0, none⟩)) true ty).run Tryz.prog wr = _ := fun ty => Lib.run_next_any_at wr w.heap.size s pos ty hit hps
        obtain ⟨b, hb, hd⟩ := decode_ascii s HA.out pos hps
        rw [hd] at hnx
        have hit2 := Lib.iterAt_heap wr w.heap.size s pos (pos + 1) hit
        have hbw2 := Lib.below_iterAt hbw (k := w.heap.size) (Nat.le_refl _) s (pos + 1)
        obtain ⟨W, hWd⟩ : ∃ W, wr.iterAt w.heap.size s (pos + 1) = W := ⟨_, rfl⟩
        rw [hWd] at hnx hit2 hbw2
        have db : ((b : Int) == 65533) = false := by rw [beq_eq_false_iff_ne]; omega
        clear hd hWd
        go_wp2_with fail
        go_roundg (gk - 1)
        case measure => omega
        case rel => exact ⟨pos + 1, hit2, hbw2, by omega⟩
      · have hnx : ∀ ty, (Instr.next (.pointer (some ⟨w.heap.size, 0, none⟩)) true ty).run Tryz.prog wr = _ := fun ty => Lib.run_next_end_at wr w.heap.size s pos ty hit hps
        go_wp2_with fail
        go_ret
        first
          | exact ⟨rfl, hbw⟩
          | exact ⟨rfl, Lib.below_iterAt hbw (k := w.heap.size) (Nat.le_refl _) s _⟩
  · have dr : ((r : Int) == 65533) = false := by rw [beq_eq_false_iff_ne]; omega
    have HV := (show Hid (∀ W, Calls Tryz.prog 133 #[.int .i32 (r : Int)] W fun e w' => e = .returned (.bool (Lib.validRune r)) ∧ w' = W) from fun W => Tryz.utf8_ValidRune r W)
    cases hv : Lib.validRune (r : Int) with
    | false =>
      rw [hv] at HV
      clear ha hv hr
      go_enter Tryz.func83, Tryz.ntmps83
      go_wp2_with fail
      refine (HV.out _).mono ?_
      rintro e w' ⟨rfl, rfl⟩
      go_wp2_with fail
      go_ret
      exact ⟨rfl, Bel.refl _⟩
    | true =>
      rw [hv] at HV
      have hvv : Utf8.valid (r : Int) = true := by
        unfold Lib.validRune at hv
        have := of_decide_eq_true hv
        unfold Utf8.valid
        simp
        omega
      obtain ⟨f2, f4, fb⟩ := encode_facts (r : Int) hvv (by omega)
      have hcv := fun W => run_convert_int_string (P := Tryz.prog) W 21 9 .i32 (r : Int) (by kernel_rfl) Tryz.underlying9
      generalize Utf8.encode (r : Int) = T at f2 f4 fb hcv
      obtain ⟨k, hk⟩ : ∃ k, T.size = k + 1 := ⟨T.size - 1, by omega⟩
      have hkT : k < T.size := by omega
      have hks : k < s.size := by omega
      have hk1 : k + 1 ≤ s.size := by omega
      have hb : 128 ≤ (T[k]'hkT).toNat := by
        have := fb (by omega)
        have e : ∀ j (hj : j < T.size), j = k → 128 ≤ (T[j]'hj).toNat → 128 ≤ (T[k]'hkT).toNat := fun j hj ej h => by subst ej; exact h
        exact e _ _ (by omega) this
      have hsb : (s[k]'hks).toNat < 128 := ha _ (List.mem_of_getElem? (at_get s k hks))
      have dn : (((s[k]'hks).toNat : Int) != ((T[k]'hkT).toNat : Int)) = true := by rw [bne_iff_ne]; omega
      have HI := (show Hid (∀ W, Calls Tryz.prog 84 #[.string (s.extract (k + 1) s.size), .int .u8 ((T[k]'hkT).toNat : Int)] W fun e w' => e = .returned (.int .i64 (-1)) ∧ Bel W w') from fun W => (Tryz.strings_IndexByte _ _ W).mono fun e w' ⟨he, hw⟩ => by
        refine ⟨?_, by rw [hw]; exact Bel.refl W⟩
        rw [he, Lib.extract_to_end, indexByte_none]
        intro hm
        have := ha _ (List.mem_of_mem_drop hm)
        have e2 : (((T[k]'hkT).toNat : Int).toNat).toUInt8 = T[k]'hkT := by simp
        rw [e2] at this
        omega)
      clear ha hv hr fb hvv hsb hb
      go_enter Tryz.func83, Tryz.ntmps83
      go_wp2_with fail
      refine (HV.out _).mono ?_
      rintro e w' ⟨rfl, rfl⟩
      go_wp2_with fail
      go_step3
      go_wp2_with fail
      go_loop [9] (fun v9 => v9 = .int .i64 (k : Int)) (fun _ => 0)
      case atStart => rfl
      case round =>
        subst hrel
        clear hk f2 f4
        go_wp2_with fail
        go_step3
        go_wp2_with fail
        go_quiet (fail)
        go_wp2_with fail
        refine wp_region_aft (by kernel_rfl) (by kernel_rfl) ?_
        repeat (first
          | go_big_quiet_skip
          | go_big_quiet_step (first | (go_at_call 84; (with_reducible refine Calls.aft (HI.out _))))
          | quiet_step (first | (go_at_call 84; (with_reducible refine Calls.aft (HI.out _)))))
        refine wpQuiet_nil ?_
        rintro _ ⟨p, rfl⟩
        go_wp2_with fail
        simp +zetaDelta only [Exit.inBlock, Exit.then, Exit.noGoto_ret]
        go_ret
        exact ⟨rfl, ((Bel.refl _).drewN _).trans p.bel⟩
def seps : ByteArray := ⟨#[32, 9, 10, 13, 44]⟩
theorem seps_index (r : Nat) (h : r < 128) : decide (0 ≤ Lib.indexByte seps.data.toList ((r : Int).toNat).toUInt8) = sepR r := by
  have key : ∀ n : Fin 128, decide (0 ≤ Lib.indexByte seps.data.toList ((n.val : Int).toNat).toUInt8) = sepR n.val := by decide +kernel
  exact key ⟨r, h⟩
set_option maxRecDepth 100000 in
theorem contains_sep (r : Nat) (h : r ≤ 1114111) (w : World) : Calls Tryz.prog 42 #[.string seps, .int .i32 (r : Int)] w fun e w' => e = .returned (.bool (sepR r)) ∧ Bel w w' := by
  by_cases hr : r < 128
  · have HI := (show Hid (Calls Tryz.prog 83 #[.string seps, .int .i32 (r : Int)] w fun e w' => e = .returned (.int .i64 (Lib.indexByte seps.data.toList ((r : Int).toNat).toUInt8)) ∧ w' = w) from Tryz.strings_IndexRune_ascii seps r w (by omega) (by omega))
    have hd := seps_index r hr
    generalize Lib.indexByte seps.data.toList ((r : Int).toNat).toUInt8 = q at HI hd
    rw [← hd]
    generalize seps = S at HI ⊢
    clear hd hr
    go_enter Tryz.func42, Tryz.ntmps42
    go_wp2_with fail
    refine HI.out.mono ?_
    rintro e w' ⟨rfl, rfl⟩
    go_wp2_with fail
    go_ret
    exact ⟨rfl, Bel.refl _⟩
  · have HI := (show Hid (Calls Tryz.prog 83 #[.string seps, .int .i32 (r : Int)] w fun e w' => e = .returned (.int .i64 (-1)) ∧ Bel w w') from idxrune_big seps (by decide) (by decide) (by decide) r (by omega) h w)
    rw [sepR_big (by omega)]
    generalize seps = S at HI ⊢
    clear hr
    go_enter Tryz.func42, Tryz.ntmps42
    go_wp2_with fail
    refine HI.out.mono ?_
    rintro e w' ⟨rfl, hb⟩
    go_wp2_with fail
    go_ret
    exact ⟨rfl, hb⟩
set_option maxRecDepth 100000 in
theorem clo_pays (w : World) : PredGrows Tryz.prog 41 #[] sepR w := by
  intro W x hx _
  have HC := (show Hid (∀ W, Calls Tryz.prog 42 #[.string seps, .int .i32 (x : Int)] W fun e w' => e = .returned (.bool (sepR x)) ∧ Bel W w') from fun W => contains_sep x hx W)
  generalize sepR x = b at HC ⊢
  show Calls Tryz.prog 41 #[.int .i32 (x : Int)] W _
  go_enter Tryz.func41, Tryz.ntmps41
  go_wp2_with fail
  refine (HC.out _).mono ?_
  rintro e w' ⟨rfl, hb⟩
  go_wp2_with fail
  go_ret
  exact ⟨rfl, hb⟩
theorem fields_run (s : ByteArray) (w : World) (hs : s.size ≤ 4294967296) :
    Calls Tryz.prog 40 #[.string s, .func (.func 41) #[] #[]] w fun e w' => ∃ v, e = .returned v ∧ Txts w w' v (wordsQ s) ∧ Bel w w' := by
  have h := Any.strings_FieldsFunc_grows Tryz.lays229 41 #[] (enters_of Tryz.func41 (by kernel_rfl) rfl) sepR s w hs (clo_pays w) (by kernel_rfl) (by kernel_rfl)
  refine h.mono ?_
  rintro e w' ⟨A, rfl, -, hown, hb⟩
  exact ⟨_, rfl, hown, hb⟩
end Go.Proofs.YtpmmaickjolimaaGreatDoor.Ci
