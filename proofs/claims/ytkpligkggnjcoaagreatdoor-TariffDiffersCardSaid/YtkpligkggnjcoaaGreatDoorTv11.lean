/- Parts of the proof, one behind the other: TZk. No conditions. -/
import Derived.Test.YtkpligkggnjcoaaGreatDoorTv10
import Derived.Test.YtkpligkggnjcoaaGreatDoorRows
import Derived.Lay
import Derived.Lib.LaidU8
import Derived.Stop.LaidErr
import Derived.MakeChecks
/-! TZk -/
namespace Go.Proofs.YtkpligkggnjcoaaGreatDoor
open Ev K
open Go.ChangeShapes Go.WideShapes Go.RowKit
set_option maxRecDepth 100000
abbrev laidL:List (String × DataW Unit):=Rows.tariffReadsRow.laid
theorem row_err (u:TypeId) (h:P.typeName? 3 u=some "*errors.errorString"):u=326:=
 typeName_ptr_named (nm:= "errors.errorString") (by kernel_rfl) (by kernel_rfl) (by decide) u h
theorem gok_of {W:World} (h:laidMet P laidL W):GOK P W:=by
 refine ⟨fun _=>?_,fun _=>?_,fun nm hn _=>?_⟩
 ·have e:(Rows.laid_strings_asciiSpace:DataW Unit)=Lib.tabData .u8 Lib.asciiSpaceTab:=by kernel_rfl
  have k:=h.tail.tail.tail.tail.tail.tail
  rw [e] at k
  exact Lib.tabIs_of_head (g:=0) (t:=261) (e:=5) (n:=256) (by kernel_rfl) (by kernel_rfl) Tryz.underlying261 Tryz.underlying5 (by kernel_rfl) (by kernel_rfl) k
 ·have e:(Rows.laid_internal_strconv_uint64pow10:DataW Unit)=Lib.tabData .u64 Lib.pow10Tab:=by kernel_rfl
  have k:=h.tail.tail
  rw [e] at k
  have en:pow10Name= "internal/strconv.uint64pow10":=by kernel_rfl
  rw [en]
  exact Lib.tabIs_of_head (g:=5) (t:=311) (e:=285) (n:=20) (by kernel_rfl) (by kernel_rfl) Tryz.underlying311 Tryz.underlying285 (by kernel_rfl) (by kernel_rfl) k
 ·rcases hn with rfl | rfl
  ·obtain ⟨a,s,hv,_⟩:=laid_sentinel (g:=3) (ti:=242) (tp:=326) (te:=328) (ts:=9) h.tail.tail.tail.tail (by kernel_rfl) (by kernel_rfl) Tryz.underlying242 row_err Tryz.underlying326 Tryz.underlying328 rfl rfl Tryz.underlying9 (by kernel_rfl) (by kernel_rfl)
   exact ⟨_,hv,.inr ⟨_,_,rfl⟩⟩
  ·obtain ⟨a,s,hv,_⟩:=laid_sentinel (g:=4) (ti:=242) (tp:=326) (te:=328) (ts:=9) h.tail.tail.tail (by kernel_rfl) (by kernel_rfl) Tryz.underlying242 row_err Tryz.underlying326 Tryz.underlying328 rfl rfl Tryz.underlying9 (by kernel_rfl) (by kernel_rfl)
   exact ⟨_,hv,.inr ⟨_,_,rfl⟩⟩
theorem ownP:ownKnob P.godebug=none:=by kernel_rfl
theorem laidP:laidOutB P=true:=by kernel_rfl
theorem ub:P.underlying 4=some .bool:=by kernel_rfl
theorem laid_shaped (os:Os) (args:Array Value):((World.laidAll P os laidL).forCall (fun _ _=>0) ⟨#[],args,[]⟩).Shaped P:=
 World.shaped_of_ZipB (by kernel_rfl) (by kernel_rfl)
theorem laid_met (os:Os) (args:Array Value):laidMet P laidL ((World.laidAll P os laidL).forCall (fun _ _=>0) ⟨#[],args,[]⟩).memory:=
 laidMet_laidAll _ (by kernel_rfl) (by kernel_rfl)
theorem laid_plain (w:World):laidMetH P laidL w=laidMet P laidL w:=MakeChecks.laidMetH_plain _ _ _ (by kernel_rfl)
end Go.Proofs.YtkpligkggnjcoaaGreatDoor
