/- What package parse's query reads, and its bracketed, at every depth. -/
import Derived.Test.YtlonkcmkgmbkcaaDoorRdP
namespace Go.Proofs.YtlonkcmkgmbkcaaDoor
open Go.RowKit LexS ParS BigFrame
theorem cost_brk (d : Nat) : Cost 0 0 (brk (pInner d)) := (cost_bind (cost_wants kw_open) fun _ => cost_inner d).le (by omega)
theorem short_step (d a : Nat) : Short (stepOf (pInner d) (pCond d) a) := (rel_step (e := True) (rows := a) (rows' := a) (rel_inner d 0) (rel_pCond d 0) (fun _ => rfl)).shorter
theorem query_of {d deep : Nat} (hd : deep + d = 16) (hb : Reads 86 (brk (pInner d)) deep) : Reads 47 (pQuery d) deep :=
  query_any (pCond_reads d deep hd) (cost_pCond d) hb (cost_brk d) (short_step d) (cost_step (cost_inner d) (cost_pCond d))
theorem bracketed_reads : ∀ (d deep : Nat), deep + d = 16 → Reads 86 (brk (pInner d)) deep
  | 0, deep, h => bracketed_any (withC_deep (by omega))
  | d + 1, deep, h => bracketed_any (withC_query (by omega) (query_c (query_of (by omega) (bracketed_reads d (deep + 1) (by omega)))))
theorem pQuery_reads (d deep : Nat) (h : deep + d = 16) : Reads 47 (pQuery d) deep := query_of h (bracketed_reads d deep h)
end Go.Proofs.YtlonkcmkgmbkcaaDoor
