import Derived.Test.YtfjpaakonepafaaGDc
import Derived.KernelRfl
set_option linter.all false
namespace Go.R3K
open Go.Proofs Go.Ev
set_option maxRecDepth 100000
theorem cr35 : CloneRun Try.prog cfg 35 5 56 where
 pos := by decide
 nil := fun c => ⟨3,by kernel_rfl⟩
 fro := fun l c h => ⟨3,fun_sim (k := 2) (enc := fun _ : Unit => (.c (.slw 0 5 l.length),[some (.pur 5 l)])) (s := .op 1 1 (Rd.nilF (nilF_sl 5 (by decide) l c)) fun _ => .prf 3 2 _ (room_zero h) (.rwS 3 2 7 _ _ (slw_zero 1 5 l.length) (.ret ()))) (by kernel_rfl) rfl rfl (a := ()) rfl⟩
 own := fun l h0 h => ⟨3,fun_sim (k := 2) (enc := fun _ : Unit => (.c (.slw 1 5 l.length),[some (.pur 5 l),some (.pur 5 l)])) (s := .op 1 1 (Rd.nilF (nilF_own 0 5 h0)) fun _ => .prf 3 2 _ (room_zero h) (.rwS 3 2 7 _ _ (slw_zero 2 5 l.length) (.ret ()))) (by kernel_rfl) rfl rfl (a := ()) rfl⟩
 sub := fun l i n cap h0 hl h => ⟨3,fun_sim (k := 2) (enc := fun _ : Unit => (.c (.slw 1 5 n),[some (.pur 5 l),some (.pur 5 ((l.drop i).take n))])) (s := .op 1 1 (Rd.nilF (nilF_osl 0 5 i cap h0)) fun _ => .prf 3 2 _ (room_cut hl h) (.rwS 3 2 7 _ _ (slw_cut 2 5 hl) (.ret ()))) (by kernel_rfl) rfl rfl (a := ()) rfl⟩
theorem cr36 : CloneRun Try.prog cfg 36 1 8 where
 pos := by decide
 nil := fun c => ⟨3,by kernel_rfl⟩
 fro := fun l c h => ⟨3,fun_sim (k := 2) (enc := fun _ : Unit => (.c (.slw 0 1 l.length),[some (.pur 1 l)])) (s := .op 1 1 (Rd.nilF (nilF_sl 1 (by decide) l c)) fun _ => .prf 3 2 _ (room_zero h) (.rwS 3 2 7 _ _ (slw_zero 1 1 l.length) (.ret ()))) (by kernel_rfl) rfl rfl (a := ()) rfl⟩
 own := fun l h0 h => ⟨3,fun_sim (k := 2) (enc := fun _ : Unit => (.c (.slw 1 1 l.length),[some (.pur 1 l),some (.pur 1 l)])) (s := .op 1 1 (Rd.nilF (nilF_own 0 1 h0)) fun _ => .prf 3 2 _ (room_zero h) (.rwS 3 2 7 _ _ (slw_zero 2 1 l.length) (.ret ()))) (by kernel_rfl) rfl rfl (a := ()) rfl⟩
 sub := fun l i n cap h0 hl h => ⟨3,fun_sim (k := 2) (enc := fun _ : Unit => (.c (.slw 1 1 n),[some (.pur 1 l),some (.pur 1 ((l.drop i).take n))])) (s := .op 1 1 (Rd.nilF (nilF_osl 0 1 i cap h0)) fun _ => .prf 3 2 _ (room_cut hl h) (.rwS 3 2 7 _ _ (slw_cut 2 1 hl) (.ret ()))) (by kernel_rfl) rfl rfl (a := ()) rfl⟩
theorem cr80 : CloneRun Try.prog cfg 80 3 40 where
 pos := by decide
 nil := fun c => ⟨3,by kernel_rfl⟩
 fro := fun l c h => ⟨3,fun_sim (k := 2) (enc := fun _ : Unit => (.c (.slw 0 3 l.length),[some (.pur 3 l)])) (s := .op 1 1 (Rd.nilF (nilF_sl 3 (by decide) l c)) fun _ => .prf 3 2 _ (room_zero h) (.rwS 3 2 7 _ _ (slw_zero 1 3 l.length) (.ret ()))) (by kernel_rfl) rfl rfl (a := ()) rfl⟩
 own := fun l h0 h => ⟨3,fun_sim (k := 2) (enc := fun _ : Unit => (.c (.slw 1 3 l.length),[some (.pur 3 l),some (.pur 3 l)])) (s := .op 1 1 (Rd.nilF (nilF_own 0 3 h0)) fun _ => .prf 3 2 _ (room_zero h) (.rwS 3 2 7 _ _ (slw_zero 2 3 l.length) (.ret ()))) (by kernel_rfl) rfl rfl (a := ()) rfl⟩
 sub := fun l i n cap h0 hl h => ⟨3,fun_sim (k := 2) (enc := fun _ : Unit => (.c (.slw 1 3 n),[some (.pur 3 l),some (.pur 3 ((l.drop i).take n))])) (s := .op 1 1 (Rd.nilF (nilF_osl 0 3 i cap h0)) fun _ => .prf 3 2 _ (room_cut hl h) (.rwS 3 2 7 _ _ (slw_cut 2 3 hl) (.ret ()))) (by kernel_rfl) rfl rfl (a := ()) rfl⟩
theorem cr81 : CloneRun Try.prog cfg 81 2 16 where
 pos := by decide
 nil := fun c => ⟨3,by kernel_rfl⟩
 fro := fun l c h => ⟨3,fun_sim (k := 2) (enc := fun _ : Unit => (.c (.slw 0 2 l.length),[some (.pur 2 l)])) (s := .op 1 1 (Rd.nilF (nilF_sl 2 (by decide) l c)) fun _ => .prf 3 2 _ (room_zero h) (.rwS 3 2 7 _ _ (slw_zero 1 2 l.length) (.ret ()))) (by kernel_rfl) rfl rfl (a := ()) rfl⟩
 own := fun l h0 h => ⟨3,fun_sim (k := 2) (enc := fun _ : Unit => (.c (.slw 1 2 l.length),[some (.pur 2 l),some (.pur 2 l)])) (s := .op 1 1 (Rd.nilF (nilF_own 0 2 h0)) fun _ => .prf 3 2 _ (room_zero h) (.rwS 3 2 7 _ _ (slw_zero 2 2 l.length) (.ret ()))) (by kernel_rfl) rfl rfl (a := ()) rfl⟩
 sub := fun l i n cap h0 hl h => ⟨3,fun_sim (k := 2) (enc := fun _ : Unit => (.c (.slw 1 2 n),[some (.pur 2 l),some (.pur 2 ((l.drop i).take n))])) (s := .op 1 1 (Rd.nilF (nilF_osl 0 2 i cap h0)) fun _ => .prf 3 2 _ (room_cut hl h) (.rwS 3 2 7 _ _ (slw_cut 2 2 hl) (.ret ()))) (by kernel_rfl) rfl rfl (a := ()) rfl⟩
theorem cr82 : CloneRun Try.prog cfg 82 3 24 where
 pos := by decide
 nil := fun c => ⟨3,by kernel_rfl⟩
 fro := fun l c h => ⟨3,fun_sim (k := 2) (enc := fun _ : Unit => (.c (.slw 0 3 l.length),[some (.pur 3 l)])) (s := .op 1 1 (Rd.nilF (nilF_sl 3 (by decide) l c)) fun _ => .prf 3 2 _ (room_zero h) (.rwS 3 2 7 _ _ (slw_zero 1 3 l.length) (.ret ()))) (by kernel_rfl) rfl rfl (a := ()) rfl⟩
 own := fun l h0 h => ⟨3,fun_sim (k := 2) (enc := fun _ : Unit => (.c (.slw 1 3 l.length),[some (.pur 3 l),some (.pur 3 l)])) (s := .op 1 1 (Rd.nilF (nilF_own 0 3 h0)) fun _ => .prf 3 2 _ (room_zero h) (.rwS 3 2 7 _ _ (slw_zero 2 3 l.length) (.ret ()))) (by kernel_rfl) rfl rfl (a := ()) rfl⟩
 sub := fun l i n cap h0 hl h => ⟨3,fun_sim (k := 2) (enc := fun _ : Unit => (.c (.slw 1 3 n),[some (.pur 3 l),some (.pur 3 ((l.drop i).take n))])) (s := .op 1 1 (Rd.nilF (nilF_osl 0 3 i cap h0)) fun _ => .prf 3 2 _ (room_cut hl h) (.rwS 3 2 7 _ _ (slw_cut 2 3 hl) (.ret ()))) (by kernel_rfl) rfl rfl (a := ()) rfl⟩
theorem cr83 : CloneRun Try.prog cfg 83 3 32 where
 pos := by decide
 nil := fun c => ⟨3,by kernel_rfl⟩
 fro := fun l c h => ⟨3,fun_sim (k := 2) (enc := fun _ : Unit => (.c (.slw 0 3 l.length),[some (.pur 3 l)])) (s := .op 1 1 (Rd.nilF (nilF_sl 3 (by decide) l c)) fun _ => .prf 3 2 _ (room_zero h) (.rwS 3 2 7 _ _ (slw_zero 1 3 l.length) (.ret ()))) (by kernel_rfl) rfl rfl (a := ()) rfl⟩
 own := fun l h0 h => ⟨3,fun_sim (k := 2) (enc := fun _ : Unit => (.c (.slw 1 3 l.length),[some (.pur 3 l),some (.pur 3 l)])) (s := .op 1 1 (Rd.nilF (nilF_own 0 3 h0)) fun _ => .prf 3 2 _ (room_zero h) (.rwS 3 2 7 _ _ (slw_zero 2 3 l.length) (.ret ()))) (by kernel_rfl) rfl rfl (a := ()) rfl⟩
 sub := fun l i n cap h0 hl h => ⟨3,fun_sim (k := 2) (enc := fun _ : Unit => (.c (.slw 1 3 n),[some (.pur 3 l),some (.pur 3 ((l.drop i).take n))])) (s := .op 1 1 (Rd.nilF (nilF_osl 0 3 i cap h0)) fun _ => .prf 3 2 _ (room_cut hl h) (.rwS 3 2 7 _ _ (slw_cut 2 3 hl) (.ret ()))) (by kernel_rfl) rfl rfl (a := ()) rfl⟩
theorem cr85 : CloneRun Try.prog cfg 85 1 1 where
 pos := by decide
 nil := fun c => ⟨3,by kernel_rfl⟩
 fro := fun l c h => ⟨3,fun_sim (k := 2) (enc := fun _ : Unit => (.c (.slw 0 1 l.length),[some (.pur 1 l)])) (s := .op 1 1 (Rd.nilF (nilF_sl 1 (by decide) l c)) fun _ => .prf 3 2 _ (room_zero h) (.rwS 3 2 7 _ _ (slw_zero 1 1 l.length) (.ret ()))) (by kernel_rfl) rfl rfl (a := ()) rfl⟩
 own := fun l h0 h => ⟨3,fun_sim (k := 2) (enc := fun _ : Unit => (.c (.slw 1 1 l.length),[some (.pur 1 l),some (.pur 1 l)])) (s := .op 1 1 (Rd.nilF (nilF_own 0 1 h0)) fun _ => .prf 3 2 _ (room_zero h) (.rwS 3 2 7 _ _ (slw_zero 2 1 l.length) (.ret ()))) (by kernel_rfl) rfl rfl (a := ()) rfl⟩
 sub := fun l i n cap h0 hl h => ⟨3,fun_sim (k := 2) (enc := fun _ : Unit => (.c (.slw 1 1 n),[some (.pur 1 l),some (.pur 1 ((l.drop i).take n))])) (s := .op 1 1 (Rd.nilF (nilF_osl 0 1 i cap h0)) fun _ => .prf 3 2 _ (room_cut hl h) (.rwS 3 2 7 _ _ (slw_cut 2 1 hl) (.ret ()))) (by kernel_rfl) rfl rfl (a := ()) rfl⟩
theorem mixed : Try.prog.follows .mixedOrders = true := by kernel_rfl
theorem primsOk : PrimOk Try.prog prims := fun f p h => by
 unfold prims at h
 split at h
 ·cases h; exact cloneO_ok mixed cr35
 ·cases h; exact cloneO_ok mixed cr36
 ·cases h; exact cloneP_ok mixed cr80
 ·cases h; exact cloneP_ok mixed cr81
 ·cases h; exact cloneP_ok mixed cr82
 ·cases h; exact cloneO_ok mixed cr83
 ·cases h; exact cloneP_ok mixed cr85
 ·cases h
end Go.R3K
