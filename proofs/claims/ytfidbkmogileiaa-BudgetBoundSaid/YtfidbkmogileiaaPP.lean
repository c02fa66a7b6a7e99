import Derived.Test.YtfidbkmogileiaaEngU
open Lean PrettyPrinter
open Lean PrettyPrinter Delaborator in
@[app_delab Go.Eng.hold] def delabHold : Delab := `(hold_)
@[app_unexpander Go.Eng.AT.cs] def u1 : Unexpander
  | `($_ false [$x]) => `($x)
  | _ => throw ()
@[app_unexpander Go.Eng.AV.d] def u2 : Unexpander
  | `($_ $x) => `($x)
  | _ => throw ()
@[app_unexpander Go.Eng.CV.d] def u3 : Unexpander
  | `($_ $x) => `($x)
  | _ => throw ()
@[app_unexpander Go.Eng.D.v] def u4 : Unexpander
  | `($_ $x) => `($x)
  | _ => throw ()
@[app_unexpander Go.Value.int] def u5 : Unexpander
  | `($_ $_ $x) => `($x)
  | _ => throw ()
@[app_unexpander Go.Value.bool] def u6 : Unexpander
  | `($_ $x) => `($x)
  | _ => throw ()
@[app_unexpander Go.Eng.Sit.mk] def u7 : Unexpander
  | _ => `(sit_)
open Lean PrettyPrinter Delaborator in
@[app_delab Go.Eng.Again] def delabAgain : Delab := `(again_)
