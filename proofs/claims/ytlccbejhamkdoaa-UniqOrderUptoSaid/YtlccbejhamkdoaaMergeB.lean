/- conf.Merge: what its loop keeps (the step laws are printed by gen_merge.py) -/
import Derived.Test.YtlccbejhamkdoaaMergeA
namespace Go.Proofs.Ytlccbejhamkdoaa
open Go.RowKit

structure MInv (w1 : World) (d : Cfg) (s1 s2 s3 s4 s5 : Value) (w : World) : Prop where
  below : Below w1.heap.size w1 w
  box : w.heap[w1.heap.size + 1]? = some (.cells #[.int .u64 d.frame, s1, s2, s3, s4, s5] 29 (0, 0))
  res : w.heap[w1.heap.size]? = some (.cells #[.int .u64 0, .slice none 0 0, .slice none 0 0, .slice none 0 0, .slice none 0 0, .slice none 0 0] 29 (0, 0))
  own : OwnCfg w w1.heap.size d s1 s2 s3 s4 s5

structure MIn (w1 : World) (d : Cfg) (s1 s2 s3 s4 s5 : Value) (T : Nat) (c : Cfg) (A : Adr) (w : World) : Prop where
  m : MInv w1 d s1 s2 s3 s4 s5 w
  ne : w1.heap.size + 1 < T
  tb : w.heap[T]? = some (.cells (cfgCells c A) 29 (0, 0))

theorem MInv.next {w1 w w' : World} {d : Cfg} {s1 s2 s3 s4 s5 : Value} (h : MInv w1 d s1 s2 s3 s4 s5 w) (hb : Below w.heap.size w w') : MInv w1 d s1 s2 s3 s4 s5 w' :=
  ⟨bthen h.below hb, heap_keep h.box hb, heap_keep h.res hb, h.own.kept hb⟩
theorem MIn.next {w1 w w' : World} {d : Cfg} {s1 s2 s3 s4 s5 : Value} {T : Nat} {c : Cfg} {A : Adr} (h : MIn w1 d s1 s2 s3 s4 s5 T c A w) (hb : Below w.heap.size w w') : MIn w1 d s1 s2 s3 s4 s5 T c A w' :=
  ⟨h.m.next hb, h.ne, heap_keep h.tb hb⟩

theorem MIn.step1 {w1 w w' : World} {d c : Cfg} {A : Adr} {T : Nat} {s1 s2 s3 s4 s5 v' : Value} (h : MIn w1 d s1 s2 s3 s4 s5 T c A w) (l : List Part) (hown : w'.ownsRow w1.heap.size 36 4 v' (d.parts.length + l.length) (d.parts.flatMap encPart ++ l.flatMap encPart)) (hg : w.grownBy w' s1.ownBlock) :
    MIn w1 { d with parts := d.parts ++ l } v' s2 s3 s4 s5 T c A (w'.setCell ⟨w1.heap.size + 1, 1, none⟩ v') := by
  have hbox : w'.heap[w1.heap.size + 1]? = _ := KeptE.grown h.m.own.o1 hg (by decide) _ _ _ h.m.box
  have hbl := below_own h.m.below h.m.own.o1 (Nat.le_refl _) hg
  refine ⟨⟨bset hbl (by omega) _ _, ?_, ?_, ⟨by simpa using own_kept hown (KeptE.set hbox (by decide) _), own_kept h.m.own.o2 ((KeptE.grown h.m.own.o1 hg (by decide)).trans (KeptE.set hbox (by decide) _)), own_kept h.m.own.o3 ((KeptE.grown h.m.own.o1 hg (by decide)).trans (KeptE.set hbox (by decide) _)), own_kept h.m.own.o4 ((KeptE.grown h.m.own.o1 hg (by decide)).trans (KeptE.set hbox (by decide) _)), ?_⟩⟩, h.ne, ?_⟩
  · rw [heap_set hbox]; rfl
  · exact heap_set_ne (KeptE.grown h.m.own.o1 hg (by decide) _ _ _ h.m.res) (by omega) _
  · obtain ⟨xs, h1, h2⟩ := h.m.own.o5
    exact ⟨xs, own_kept h1 ((KeptE.grown h.m.own.o1 hg (by decide)).trans (KeptE.set hbox (by decide) _)), h2.kept ((KeptE.grown h.m.own.o1 hg (by decide)).trans (KeptE.set hbox (by decide) _))⟩
  · exact heap_set_ne (KeptE.grown h.m.own.o1 hg (by decide) _ _ _ h.tb) (by have := h.ne; omega) _

theorem MIn.step2 {w1 w w' : World} {d c : Cfg} {A : Adr} {T : Nat} {s1 s2 s3 s4 s5 v' : Value} (h : MIn w1 d s1 s2 s3 s4 s5 T c A w) (l : List Win) (hown : w'.ownsRow w1.heap.size 91 3 v' (d.wins.length + l.length) (d.wins.flatMap encWin ++ l.flatMap encWin)) (hg : w.grownBy w' s2.ownBlock) :
    MIn w1 { d with wins := d.wins ++ l } s1 v' s3 s4 s5 T c A (w'.setCell ⟨w1.heap.size + 1, 2, none⟩ v') := by
  have hbox : w'.heap[w1.heap.size + 1]? = _ := KeptE.grown h.m.own.o2 hg (by decide) _ _ _ h.m.box
  have hbl := below_own h.m.below h.m.own.o2 (Nat.le_refl _) hg
  refine ⟨⟨bset hbl (by omega) _ _, ?_, ?_, ⟨own_kept h.m.own.o1 ((KeptE.grown h.m.own.o2 hg (by decide)).trans (KeptE.set hbox (by decide) _)), by simpa using own_kept hown (KeptE.set hbox (by decide) _), own_kept h.m.own.o3 ((KeptE.grown h.m.own.o2 hg (by decide)).trans (KeptE.set hbox (by decide) _)), own_kept h.m.own.o4 ((KeptE.grown h.m.own.o2 hg (by decide)).trans (KeptE.set hbox (by decide) _)), ?_⟩⟩, h.ne, ?_⟩
  · rw [heap_set hbox]; rfl
  · exact heap_set_ne (KeptE.grown h.m.own.o2 hg (by decide) _ _ _ h.m.res) (by omega) _
  · obtain ⟨xs, h1, h2⟩ := h.m.own.o5
    exact ⟨xs, own_kept h1 ((KeptE.grown h.m.own.o2 hg (by decide)).trans (KeptE.set hbox (by decide) _)), h2.kept ((KeptE.grown h.m.own.o2 hg (by decide)).trans (KeptE.set hbox (by decide) _))⟩
  · exact heap_set_ne (KeptE.grown h.m.own.o2 hg (by decide) _ _ _ h.tb) (by have := h.ne; omega) _

theorem MIn.step3 {w1 w w' : World} {d c : Cfg} {A : Adr} {T : Nat} {s1 s2 s3 s4 s5 v' : Value} (h : MIn w1 d s1 s2 s3 s4 s5 T c A w) (l : List Reg) (hown : w'.ownsRow w1.heap.size 181 5 v' (d.regs.length + l.length) (d.regs.flatMap encReg ++ l.flatMap encReg)) (hg : w.grownBy w' s3.ownBlock) :
    MIn w1 { d with regs := d.regs ++ l } s1 s2 v' s4 s5 T c A (w'.setCell ⟨w1.heap.size + 1, 3, none⟩ v') := by
  have hbox : w'.heap[w1.heap.size + 1]? = _ := KeptE.grown h.m.own.o3 hg (by decide) _ _ _ h.m.box
  have hbl := below_own h.m.below h.m.own.o3 (Nat.le_refl _) hg
  refine ⟨⟨bset hbl (by omega) _ _, ?_, ?_, ⟨own_kept h.m.own.o1 ((KeptE.grown h.m.own.o3 hg (by decide)).trans (KeptE.set hbox (by decide) _)), own_kept h.m.own.o2 ((KeptE.grown h.m.own.o3 hg (by decide)).trans (KeptE.set hbox (by decide) _)), by simpa using own_kept hown (KeptE.set hbox (by decide) _), own_kept h.m.own.o4 ((KeptE.grown h.m.own.o3 hg (by decide)).trans (KeptE.set hbox (by decide) _)), ?_⟩⟩, h.ne, ?_⟩
  · rw [heap_set hbox]; rfl
  · exact heap_set_ne (KeptE.grown h.m.own.o3 hg (by decide) _ _ _ h.m.res) (by omega) _
  · obtain ⟨xs, h1, h2⟩ := h.m.own.o5
    exact ⟨xs, own_kept h1 ((KeptE.grown h.m.own.o3 hg (by decide)).trans (KeptE.set hbox (by decide) _)), h2.kept ((KeptE.grown h.m.own.o3 hg (by decide)).trans (KeptE.set hbox (by decide) _))⟩
  · exact heap_set_ne (KeptE.grown h.m.own.o3 hg (by decide) _ _ _ h.tb) (by have := h.ne; omega) _

theorem MIn.step4 {w1 w w' : World} {d c : Cfg} {A : Adr} {T : Nat} {s1 s2 s3 s4 s5 v' : Value} (h : MIn w1 d s1 s2 s3 s4 s5 T c A w) (l : List Prt) (hown : w'.ownsRow w1.heap.size 40 6 v' (d.ports.length + l.length) (d.ports.flatMap encPrt ++ l.flatMap encPrt)) (hg : w.grownBy w' s4.ownBlock) :
    MIn w1 { d with ports := d.ports ++ l } s1 s2 s3 v' s5 T c A (w'.setCell ⟨w1.heap.size + 1, 4, none⟩ v') := by
  have hbox : w'.heap[w1.heap.size + 1]? = _ := KeptE.grown h.m.own.o4 hg (by decide) _ _ _ h.m.box
  have hbl := below_own h.m.below h.m.own.o4 (Nat.le_refl _) hg
  refine ⟨⟨bset hbl (by omega) _ _, ?_, ?_, ⟨own_kept h.m.own.o1 ((KeptE.grown h.m.own.o4 hg (by decide)).trans (KeptE.set hbox (by decide) _)), own_kept h.m.own.o2 ((KeptE.grown h.m.own.o4 hg (by decide)).trans (KeptE.set hbox (by decide) _)), own_kept h.m.own.o3 ((KeptE.grown h.m.own.o4 hg (by decide)).trans (KeptE.set hbox (by decide) _)), by simpa using own_kept hown (KeptE.set hbox (by decide) _), ?_⟩⟩, h.ne, ?_⟩
  · rw [heap_set hbox]; rfl
  · exact heap_set_ne (KeptE.grown h.m.own.o4 hg (by decide) _ _ _ h.m.res) (by omega) _
  · obtain ⟨xs, h1, h2⟩ := h.m.own.o5
    exact ⟨xs, own_kept h1 ((KeptE.grown h.m.own.o4 hg (by decide)).trans (KeptE.set hbox (by decide) _)), h2.kept ((KeptE.grown h.m.own.o4 hg (by decide)).trans (KeptE.set hbox (by decide) _))⟩
  · exact heap_set_ne (KeptE.grown h.m.own.o4 hg (by decide) _ _ _ h.tb) (by have := h.ne; omega) _

theorem MIn.step5 {w1 w w' : World} {d c : Cfg} {A : Adr} {T : Nat} {s1 s2 s3 s4 s5 v' : Value} {xs : List Value} (h : MIn w1 d s1 s2 s3 s4 s5 T c A w) (x : Chn) {a : Option Addr} {cap : Nat}
    (ho5 : w.ownsRow w1.heap.size 44 3 s5 d.chans.length xs) (hr : ChnRow w w1.heap.size d.chans xs)
    (hd : w.ownsRow w1.heap.size 34 1 (.slice a x.dests.length cap) x.dests.length (x.dests.flatMap fun n => [.int .u16 n]))
    (hown : w'.ownsRow w1.heap.size 44 3 v' (d.chans.length + 1) (xs ++ [.int .u16 x.id, .int .u16 x.src, .slice a x.dests.length cap])) (hg : w.grownBy w' s5.ownBlock) :
    MIn w1 { d with chans := d.chans ++ [x] } s1 s2 s3 s4 v' T c A (w'.setCell ⟨w1.heap.size + 1, 5, none⟩ v') := by
  have hbox : w'.heap[w1.heap.size + 1]? = _ := KeptE.grown ho5 hg (by decide) _ _ _ h.m.box
  have hbl := below_own h.m.below ho5 (Nat.le_refl _) hg
  refine ⟨⟨bset hbl (by omega) _ _, ?_, ?_, ⟨own_kept h.m.own.o1 ((KeptE.grown ho5 hg (by decide)).trans (KeptE.set hbox (by decide) _)), own_kept h.m.own.o2 ((KeptE.grown ho5 hg (by decide)).trans (KeptE.set hbox (by decide) _)), own_kept h.m.own.o3 ((KeptE.grown ho5 hg (by decide)).trans (KeptE.set hbox (by decide) _)), own_kept h.m.own.o4 ((KeptE.grown ho5 hg (by decide)).trans (KeptE.set hbox (by decide) _)), ?_⟩⟩, h.ne, ?_⟩
  · rw [heap_set hbox]; rfl
  · exact heap_set_ne (KeptE.grown ho5 hg (by decide) _ _ _ h.m.res) (by omega) _
  · refine ⟨_, by simpa using own_kept hown (KeptE.set hbox (by decide) _), ?_⟩
    have hk : KeptE 34 w (w'.setCell ⟨w1.heap.size + 1, 5, none⟩ v') := (KeptE.grown ho5 hg (by decide)).trans (KeptE.set hbox (by decide) _)
    exact (hr.kept hk).snoc (own_kept hd hk)
  · exact heap_set_ne (KeptE.grown ho5 hg (by decide) _ _ _ h.tb) (by have := h.ne; omega) _

def joinCfg (fr : Int) (cs : List Cfg) : Cfg := { frame := fr, parts := cs.flatMap (·.parts), wins := cs.flatMap (·.wins), regs := cs.flatMap (·.regs), ports := cs.flatMap (·.ports), chans := cs.flatMap (·.chans) }
theorem joinCfg_snoc (fr : Int) (cs : List Cfg) (c : Cfg) : joinCfg fr (cs ++ [c]) = { frame := fr, parts := (joinCfg fr cs).parts ++ c.parts, wins := (joinCfg fr cs).wins ++ c.wins, regs := (joinCfg fr cs).regs ++ c.regs, ports := (joinCfg fr cs).ports ++ c.ports, chans := (joinCfg fr cs).chans ++ c.chans } := by
  simp [joinCfg]
end Go.Proofs.Ytlccbejhamkdoaa
