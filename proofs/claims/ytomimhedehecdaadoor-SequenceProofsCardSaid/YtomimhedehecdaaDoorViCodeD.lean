/- Small code, both parts. -/
import Derived.Test.YtomimhedehecdaaDoorViCodeD1
import Derived.Test.YtomimhedehecdaaDoorViCodeD2
